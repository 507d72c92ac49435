/- A part of the proofs: What is appended. -/
import Derived.Test.YtofeifhecboinaaGreatMB0
import Derived.Laws.BytesArg
import Derived.Laws.IdiomStrings
import Derived.Laws.AppendOwn
import Derived.MapKept
import Derived.Tactics
import Derived.Orders
import Derived.Scope
set_option linter.unusedVariables false
set_option linter.unusedSimpArgs false
noncomputable section
namespace Go.Proofs.Dk
open Go Go.RowKit
section
variable {P : Program} {I : In} {w w' : World} {T : List DV} {a : Act} {H : Heap} {α : Type}
theorem AU {s : Sh} {d : DV} {v : Value} {ys : List s.T} (hH : HR I w H) (hd : VR I w d v) (h : fc H s d = some ys) :
  ∃ A c, v = .slice A ys.length c ∧ ∃ news : List Value, (Sh.arr ys.length s).K I.R w ys news ∧ (A = none → ys = []) ∧ ∀ ad, A = some ad → ∀ j u, news[j]? = some u → w.cell? (ad.add j) = some u := by
 have fromK : ∀ {xs : List s.T} {v : Value}, (Sh.sl s).K I.R w xs [v] → ∃ A c, v = .slice A xs.length c ∧ ∃ news : List Value, (Sh.arr xs.length s).K I.R w xs news ∧ (A = none → xs = []) ∧ ∀ ad, A = some ad → ∀ j u, news[j]? = some u → w.cell? (ad.add j) = some u := by
  rintro xs v ⟨A, cap, e1, e2, e3⟩
  simp only [bX, bC] at e1
  subst e1
  refine ⟨A, cap, rfl, ?_⟩
  by_cases hne : xs = []
  ·subst hne
   exact ⟨[], ⟨rfl, by simp, fun i x hx => by simp at hx⟩, fun _ => rfl, fun ad _ j u hu => by simp at hu⟩
  ·obtain ⟨ad, rfl, g1, g2, g3⟩ := e3 hne
   have hall : ∀ i, i < xs.length → ∃ c : List Value, c.length = s.sz ∧ (∀ x, xs[i]? = some x → s.K I.R w x c) ∧ ∀ j u, c[j]? = some u → w.cell? (ad.add (i * s.sz + j)) = some u := by
    intro i hi
    obtain ⟨c, m1, m2, m3⟩ := g3 i _ (aF hi)
    refine ⟨c, m1, fun x hx => ?_, m3⟩
    rw [aF hi] at hx
    simp only [aa] at hx
    subst hx
    exact m2
   obtain ⟨X, hX⟩ := Go.Deep.choose_lt hall
   have hlen : ∀ n, n ≤ xs.length → ((List.range n).flatMap X).length = n * s.sz := by
    intro n
    induction n with
    | zero => intro _; simp
    | succ n ih =>
     intro hn
     rw [List.range_succ, List.flatMap_append, aT, ih (by omega)]
     simp [(hX n (by omega)).1, aQ]
   have hget : ∀ n, n ≤ xs.length → ∀ i j, i < n → j < s.sz → ((List.range n).flatMap X)[i * s.sz + j]? = (X i)[j]? := by
    intro n
    induction n with
    | zero => intro _ i j hi; omega
    | succ n ih =>
     intro hn i j hi hj
     rw [List.range_succ, List.flatMap_append]
     have hl := hlen n (by omega)
     rcases am i n with h1 | h1
     ·have : i * s.sz + s.sz ≤ n * s.sz := by rw [← aQ]; exact aU _ h1
      rw [bc (by omega)]
      exact ih (by omega) i j h1 hj
     ·have : i = n := by omega
      subst this
      rw [bg (by omega), hl]
      simp
   refine ⟨(List.range xs.length).flatMap X, ⟨rfl, hlen _ (ak _), fun i x hx => ?_⟩, fun h => by (cases h), fun ad' h j u hu => ?_⟩
   ·have hi := (List.getElem?_eq_some_iff.1 hx).1
    have : (((List.range xs.length).flatMap X).drop (i * s.sz)).take s.sz = X i := by
     apply cy
     intro j
     rw [aY]
     split
     ·rename_i hj
      rw [ba]
      exact hget _ (ak _) i j hi hj
     ·rw [bQ (by rw [(hX i hi).1]; omega)]
    rw [this]
    exact (hX i hi).2.1 x hx
   ·simp only [aa] at h
    subst h
    have hj := (List.getElem?_eq_some_iff.1 hu).1
    rw [hlen _ (ak _)] at hj
    have hz : 0 < s.sz := by
     rcases bV s.sz with h | h
     ·rw [h] at hj; omega
     ·exact h
    have hq : j / s.sz < xs.length := by rw [Nat.div_lt_iff_lt_mul hz]; exact hj
    have hm : j % s.sz < s.sz := Nat.mod_lt _ hz
    have hjq : j / s.sz * s.sz + j % s.sz = j := by rw [Nat.mul_comm]; exact Nat.div_add_mod j s.sz
    have := (hX (j / s.sz) hq).2.2 (j % s.sz) u (by rw [← hget _ (ak _) _ _ hq hm, hjq]; exact hu)
    rw [hjq] at this
    exact this
 unfold fc at h
 split at h
 ·rename_i s' xs
  cases hd with | vs _ _ _ hk =>
  split at h
  ·rename_i hs hq
   cases hs
   simp only [aa] at h
   subst h
   exact fromK hk
  ·cases h
 ·rename_i n c
  obtain rfl := hd.sc_eq
  split at h
  ·rename_i hn
   subst hn
   simp only [aa] at h
   subst h
   exact ⟨none, c, rfl, [], ⟨rfl, by simp, fun i x hx => by simp at hx⟩, fun _ => rfl, fun ad h => by cases h⟩
  ·cases h
 ·rename_i n
  cases hd with | rw _ sz v hi hs =>
  split at h
  ·rename_i E s' xs hrow
   split at h
   ·rename_i hs' hq
    cases hs'
    simp only [aa] at h
    subst h
    obtain ⟨A, l, c, rfl⟩ := hs
    obtain ⟨h1, rfl, h3, h4⟩ := jq hH hrow hi
    refine ⟨A, c, rfl, ?_⟩
    rcases bV xs.length with h0 | h0
    ·have : xs = [] := bj h0
     subst this
     exact ⟨[], ⟨rfl, by simp, fun i x hx => by simp at hx⟩, fun _ => rfl, fun ad _ j u hu => by simp at hu⟩
    ·obtain ⟨b, rfl⟩ := h4 h0
     obtain ⟨_, _, cs, k1, k2, k3⟩ := mq hH hrow hi
     refine ⟨cs, k1, fun h => by (cases h), fun ad had j u hu => ?_⟩
     simp only [aa] at had
     subst had
     rw [Addr.add_mid, bq]
     exact k3 j u hu
   ·cases h
  ·cases h
 ·rename_i n o l
  cases hd with | sl _ _ _ sz A A' len cap cap' hi hl h0' h1' hc' =>
  split at h
  ·rename_i E s' xs hrow
   split at h
   ·rename_i hs' hq
    cases hs'
    simp only [aa] at h
    subst h
    obtain ⟨h1, rfl, h3, h4⟩ := jq hH hrow hi
    have hlen : ((xs.drop o).take l).length = l := by simp; omega
    refine ⟨A', cap', by rw [hlen], ?_⟩
    rcases bV l with h0 | h0
    ·subst h0
     simp only [List.take_zero]
     exact ⟨[], ⟨rfl, by simp, fun i x hx => by simp at hx⟩, fun _ => by trivial, fun ad _ j u hu => by simp at hu⟩
    ·obtain ⟨b, rfl, rfl⟩ := h1' h0
     obtain ⟨_, _, cs, k1, k2, k3⟩ := mq hH hrow hi
     subst h1
     have hcl := k1.2.1
     refine ⟨(cs.drop (o * s.sz)).take (l * s.sz), ⟨by rw [hlen], ?_, fun i x hx => ?_⟩, fun h => by (cases h), fun ad had j u hu => ?_⟩
     ·have : o * s.sz + l * s.sz ≤ xs.length * s.sz := by rw [← bx]; exact aU _ hl
      rw [hlen]
      simp
      omega
     ·have hx2 : xs[o + i]? = some x ∧ i < l := by
       rw [aY] at hx
       split at hx
       ·rename_i hil
        rw [ba] at hx
        exact ⟨hx, hil⟩
       ·cases hx
      have := k1.2.2 _ x hx2.1
      have hle : i * s.sz + s.sz ≤ l * s.sz := by rw [← aQ]; exact aU _ hx2.2
      have e1 : (((cs.drop (o * s.sz)).take (l * s.sz)).drop (i * s.sz)).take s.sz = (cs.drop ((o + i) * s.sz)).take s.sz := by
       rw [List.drop_take, List.take_take, bG, bx]
       congr 1
       omega
      rw [e1]
      exact this
     ·simp only [aa] at had
      subst had
      rw [Addr.add_mid]
      refine k3 _ u ?_
      rw [aY] at hu
      split at hu
      ·rw [ba] at hu
       exact hu
      ·cases hu
   ·cases h
  ·cases h
 ·cases h
theorem ye {base : Nat} {t ty e : TypeId} {i : TypeInfo} {size c : Nat} (ht : P.underlying t = some (.slice e)) (hi : P.info? e = some i) (v : Value) (n : Nat) (xs : List Value) (hown : w.ownsRow base e size v n xs) :
  (Builtin.append_ #[t, t] ty #[v, .slice none 0 c]).run P w = .ok v w := by
 rcases hown.2 with ⟨rfl, rfl⟩ | ⟨g, cap, cur, rfl, _, _, hnc, _⟩
 ·simp [Builtin.append_, run_underlying ht, sizeOf, typeInfo, hi, Builtin.lenOf, Builtin.firstCells]
 ·simp [Builtin.append_, run_underlying ht, sizeOf, typeInfo, hi, Builtin.lenOf, Builtin.firstCells, hnc, storeCells]
theorem qu {t ty e : TypeId} {s : Sh} {xs ys : List s.T} {v : Value} {cs : List Value} {d : DV} {u : Value} (hH : HR I w H) (hz : jE P e s = true) (hu : P.underlying t = some (.slice e)) (hown : w.ownsRow 0 e s.sz v xs.length cs) (hk : (Sh.arr xs.length s).K I.R w xs cs)
  (hd : VR I w d u) (hy : fc H s d = some ys) (hb : (xs.length + ys.length) * fb P e ≤ 140737488355328) (h1 : 1 ≤ fb P e) :
  ∃ v' w' cs', (Builtin.append_ #[t, t] ty #[v, u]).run P w = .ok v' w' ∧ w'.ownsRow 0 e s.sz v' (xs ++ ys).length cs' ∧ w.grownBy w' v.ownBlock ∧ (v'.ownBlock = v.ownBlock ∨ v'.ownBlock = some w.heap.size) ∧ (Sh.arr (xs ++ ys).length s).K I.R w (xs ++ ys) cs' := by
 obtain ⟨i, z, hi, hz0, hsz, hp, hkz⟩ := yR (w := w) (R := I.R) hz
 obtain ⟨A, c, rfl, news, k1, k2, k3⟩ := AU hH hd hy
 have hbt : fb P e = i.bytes := by simp [fb, hi]
 rw [hbt] at hb h1
 have hcat : (Sh.arr (xs ++ ys).length s).K I.R w (xs ++ ys) (cs ++ news) := by
  refine ⟨rfl, by simp [hk.2.1, k1.2.1, bx], fun i x hx => ?_⟩
  rcases am i xs.length with h | h
  ·rw [bc h] at hx
   have := hk.2.2 i x hx
   have hle : i * s.sz + s.sz ≤ xs.length * s.sz := by rw [← aQ]; exact aU _ h
   rw [bW (by rw [hk.2.1]; omega), bz (by simp [hk.2.1]; omega)]
   exact this
  ·rw [bg h] at hx
   have := k1.2.2 _ x hx
   have e1 : i * s.sz = cs.length + (i - xs.length) * s.sz := by
    rw [hk.2.1, ← bx]
    congr 1
    omega
   rw [e1, List.drop_length_add_append]
   exact this
 cases A with
 | none =>
  have : ys = [] := k2 rfl
  subst this
  refine ⟨v, w, cs, ye hu hi v xs.length cs hown, by simpa using hown, ⟨rfl, rfl, rfl, ak _, fun _ _ _ => rfl⟩, .inl rfl, by rw [aK]; exact hk⟩
 | some ad =>
  have hzs : z.cells.size = s.sz := by simpa using Sh.K_len hkz
  have h63 : xs.length + ys.length ≤ maxLen := by
   have : (xs.length + ys.length) * 1 ≤ (xs.length + ys.length) * i.bytes := Nat.mul_le_mul_left _ h1
   simp only [maxLen]
   omega
  obtain ⟨v', w', g1, g2, g3, _, g5⟩ := run_append_own_at (P := P) w 0 t ty e i z s.sz i.bytes hu hi hz0 hsz rfl hzs hp v xs.length cs hown ad ys.length c news k1.2.1 (k3 ad rfl) (Sh.K_one k1) h63 hb (aq _)
  exact ⟨v', w', cs ++ news, g1, by simpa using g2, g3, g5, hcat⟩
theorem Kk {n sz : Nat} {v v' : Value} {E : TypeId} {s : Sh} {xs : List s.T} {cs : List Value} (hH : HR I w H) (h0 : I.ι n = some (.row sz v)) (hg : w.grownBy w' v.ownBlock) (hv : v'.ownBlock = v.ownBlock ∨ v'.ownBlock = some w.heap.size) (hown : w'.ownsRow 0 E s.sz v' xs.length cs) (hk : (Sh.arr xs.length s).K I.R w xs cs) :
  HR (I.put n (.row s.sz v')) w' ((H.sub n .none).set n (some (.row E s xs))) ∧ Ext I w (I.put n (.row s.sz v')) w' ∧ But n .none I (I.put n (.row s.sz v')) w w' := by
 have hlt : ∀ b, v'.ownBlock = some b → b < w'.heap.size := by
  intro b hb
  rcases hown.2 with ⟨rfl, _⟩ | ⟨g, cap, cur, rfl, _, hh, _⟩
  ·cases hb
  ·simp only [Value.ownBlock, aa] at hb
   subst hb
   exact (Array.getElem?_eq_some_iff.1 hh).1
 have hkeep : Keeps I.R (I.put n (.row s.sz v')).R w w' := ⟨fun _ h => h, fun b hb => hg.block b (hH.rlt b hb) (fun e => (hH.lt n _ b h0 (by simp [Ent.blk, ← e])).2 hb)⟩
 have hbut : But n .none I (I.put n (.row s.sz v')) w w' := by
  refine ⟨hkeep, fun m b h => ?_, fun m sz' u hm h => by rw [dz hm]; exact h, fun s xs h => by cases h⟩
  rw [dz]
  ·exact h
  ·rintro rfl; rw [h0] at h; cases h
 refine ⟨HR.of (fun m b h => ?_) (fun m h => ?_) (fun m e b h hb => ?_) (fun m m' e e' b h h' hb hb' => ?_) (fun b h => ?_), ⟨hbut.obj, fun _ h => h, fun b hb hn => hg.block b hb (fun e => hn n _ h0 (by simp [Ent.blk, ← e])), fun m e b h hb => ?_, fun b h => .inl h, hg.size, hg.os, hg.tape, hg.output⟩, hbut⟩
 ·by_cases hm : m = n
  ·subst hm
   rw [Heap.set_same] at h
   simp only [aa] at h
   subst h
   exact ⟨v', cs, dG, hown, Sh.K_keep hkeep hk⟩
  ·rw [fB hm] at h
   simp only [Heap.sub, hm, au] at h
   split at h
   ·rename_i b0 hb0
    simp only [aa] at h
    subst h
    have hother : ∀ e g, I.ι m = some e → e.blk = some g → w'.heap[g]? = w.heap[g]? := fun e g h1 h2 => hg.block g (hH.lt m e g h1 h2).1 (fun e3 => hm (hH.inj m n e _ g h1 h0 h2 (by simp [Ent.blk, ← e3])))
    cases b0 with
    | obj cs0 =>
     obtain ⟨b, c, t, k1, k2, k3⟩ := hH.obj m cs0 hb0
     exact ⟨b, c, t, by rw [dz hm]; exact k1, (hother _ b k1 rfl).trans k2, CR.sub hbut k3⟩
    | row E' s' xs' =>
     obtain ⟨u, cs', k1, k2, k3⟩ := hH.row m E' s' xs' hb0
     exact ⟨u, cs', by rw [dz hm]; exact k1, rN k2 (fun g hg' => hother _ g k1 hg'), Sh.K_keep hkeep k3⟩
    | mp ks vs =>
     obtain ⟨b, es, cl, val, k1, k2, k3, k4⟩ := hH.mp m ks vs hb0
     refine ⟨b, es, cl, val, by rw [dz hm]; exact k1, (hother _ b k1 rfl).trans k2, k3.map (kg ks vs), fun j d hd => ?_⟩
     rw [kg] at hd
     obtain ⟨d0, h0', rfl⟩ := Option.map_eq_some_iff.1 hd
     exact VR.sub hbut (k4 j d0 h0')
   ·cases h
 ·by_cases hm : m = n
  ·subst hm; rw [Heap.set_same] at h; cases h
  ·rw [fB hm] at h
   rw [dz hm]
   simp only [Heap.sub, hm, au] at h
   split at h
   ·cases h
   ·rename_i hb0
    exact hH.dom m hb0
 ·by_cases hm : m = n
  ·subst hm
   rw [dG] at h
   simp only [aa] at h
   subst h
   refine ⟨hlt b hb, fun hR => ?_⟩
   rcases hv with hv | hv
   ·exact (hH.lt m _ b h0 (by simp only [Ent.blk] at hb ⊢; rw [← hv]; exact hb)).2 hR
   ·have := hH.rlt b hR
    simp only [Ent.blk] at hb
    rw [hv] at hb
    simp only [aa] at hb
    omega
  ·rw [dz hm] at h
   obtain ⟨k1, k2⟩ := hH.lt m e b h hb
   exact ⟨bk k1 hg.size, k2⟩
 ·have key : ∀ m e b, m ≠ n → I.ι m = some e → e.blk = some b → v'.ownBlock = some b → False := by
   intro m e b hm h1 h2 h3
   rcases hv with hv | hv
   ·exact hm (hH.inj m n e _ b h1 h0 h2 (by simp only [Ent.blk]; rw [← hv]; exact h3))
   ·have := (hH.lt m e b h1 h2).1
    rw [hv] at h3
    simp only [aa] at h3
    omega
  by_cases hm : m = n
  ·by_cases hm' : m' = n
   ·rw [hm, hm']
   ·exfalso
    subst hm
    rw [dG] at h
    rw [dz hm'] at h'
    simp only [aa] at h
    subst h
    exact key m' e' b hm' h' hb' hb
  ·by_cases hm' : m' = n
   ·exfalso
    subst hm'
    rw [dG] at h'
    rw [dz hm] at h
    simp only [aa] at h'
    subst h'
    exact key m e b hm h hb hb'
   ·rw [dz hm] at h
    rw [dz hm'] at h'
    exact hH.inj m m' e e' b h h' hb hb'
 ·exact bk (hH.rlt b h) hg.size
 ·by_cases hm : m = n
  ·subst hm
   rw [dG] at h
   simp only [aa] at h
   subst h
   rcases hv with hv | hv
   ·exact .inl ⟨m, _, h0, by simp only [Ent.blk] at hb ⊢; rw [← hv]; exact hb⟩
   ·simp only [Ent.blk] at hb
    rw [hv] at hb
    simp only [aa] at hb
    exact .inr (by omega)
  ·rw [dz hm] at h
   exact .inl ⟨m, e, h, hb⟩
end
section
variable {P : Program} {I : In} {w w' : World} {T : List DV} {a : Act} {H : Heap} {α : Type}
theorem Done.makes {o : Oper} {v : DV} {s : Sem Value} (hH : HR I w H) (ho : execOp a.eval o = (do Pure.pure (Next.value (← s)))) (h : i1 P I w s v) : Done P o a I w H v none := by
 obtain ⟨u, h1, h2⟩ := h
 exact Done.pure hH (by rw [ho]; exact jW h1) h2
theorem VR.fn_case {F : Fn} {x y : List DV} {u : Value} (h : VR I w (.fn F x y) u) : ∃ x' y', u = .func F x' y' ∧ LR I w x x'.toList ∧ LR I w y y'.toList := by
 cases h with | fn _ _ _ a' b' h1 h2 => exact ⟨a', b', rfl, h1, h2⟩
theorem kh (hT : TR I w T a) (ps : Array Operand) : LR I w (ps.toList.map (dh T)) (ps.map a.eval).toList := by
 rw [cm]
 exact LR.map hT _
theorem LR.get : ∀ {ds : List DV} {vs : List Value} {i : Nat} {d : DV}, LR I w ds vs → ds[i]? = some d → ∃ v, vs[i]? = some v ∧ VR I w d v
 | _, _, _, _, .nil, h => by simp at h
 | _, _, 0, _, .cons d r u vs h hr, h1 => by
  simp only [bp, aa] at h1
  subst h1
  exact ⟨u, rfl, h⟩
 | _, _, i + 1, _, .cons d r u vs h hr, h1 => by
  simp only [cw] at h1 ⊢
  exact LR.get hr h1
theorem yf {k : IntKind} : ∀ {r : List DV} {vs : List Value} {x : Int} {v : DV}, LR I w r vs → AG k x r = some v → ∃ n, v = .sc (.int k n) ∧ (vs.foldlM Builtin.min2 (.int k x)).run P w = .ok (.int k n) w
 | _, _, x, v, .nil, h => by
  simp only [AG, aa] at h
  exact ⟨x, h.symm, rfl⟩
 | _, _, x, v, .cons d r u vs hd hr, h => by
  simp only [AG] at h
  split at h
  ·rename_i k' y
   obtain rfl := hd.sc_eq
   split at h
   ·rename_i hk
    subst hk
    obtain ⟨n, h1, h2⟩ := yf hr h
    exact ⟨n, h1, by simp only [List.foldlM_cons, Builtin.min2]; exact h2⟩
   ·cases h
  ·cases h
theorem yg {k : IntKind} : ∀ {r : List DV} {vs : List Value} {x : Int} {v : DV}, LR I w r vs → AH k x r = some v → ∃ n, v = .sc (.int k n) ∧ (vs.foldlM Builtin.max2 (.int k x)).run P w = .ok (.int k n) w
 | _, _, x, v, .nil, h => by
  simp only [AH, aa] at h
  exact ⟨x, h.symm, rfl⟩
 | _, _, x, v, .cons d r u vs hd hr, h => by
  simp only [AH] at h
  split at h
  ·rename_i k' y
   obtain rfl := hd.sc_eq
   split at h
   ·rename_i hk
    subst hk
    obtain ⟨n, h1, h2⟩ := yg hr h
    exact ⟨n, h1, by simp only [List.foldlM_cons, Builtin.max2]; exact h2⟩
   ·cases h
  ·cases h
theorem gu {o : Oper} {c : Call} {b : Builtin} {s : Sem Value} (ho : o.op = .call c) (hc : c.callee = .builtin b) (hb : builtin b c.argTypes o.type (c.args.map fun | .const _ => true | _ => false) (c.args.map a.eval) = (do pure (Next.value (← s)))) : execOp a.eval o = (do pure (Next.value (← s))) := by
 unfold execOp
 rw [ho]
 simp only [resolve, hc]
 exact hb
theorem kw {d : Nat} {o : Oper} {b : Blk} {v : Nat → DV} {k : DV → fD → Option α} {r : α} (h : f6 d o H b v k = some r) : ∃ n, H n = none ∧ k (v n) (some (n, b)) = some r := by
 unfold f6 at h
 simp only at h
 split at h
 ·cases h
 ·rename_i hn
  exact ⟨_, hn, h⟩
theorem fZ {β : Type} {k : DV → Option β} {x : Option DV} {r : β} (h : (match x with | some x => k x | none => none) = some r) : ∃ y, x = some y ∧ k y = some r := by
 cases x with
 | none => cases h
 | some y => exact ⟨y, rfl, h⟩
theorem Kl (hT : TR I w T a) (x : Option Operand) : (x.map (dh T) = none ∧ x.map a.eval = none) ∨ ∃ d u, x.map (dh T) = some d ∧ x.map a.eval = some u ∧ VR I w d u := by
 cases x with
 | none => exact .inl ⟨rfl, rfl⟩
 | some y => exact .inr ⟨_, _, rfl, rfl, dm hT y⟩
end
section
variable {P : Program} {I : In} {w w' : World} {T : List DV} {a : Act} {H : Heap} {α : Type}
theorem vh : ∀ {ks : List (List Int)} {vs : List DV} {z : DV} {n : Int} {k : DV → Bool → Option α} {r : α}, vd ks vs z n k = some r → (∃ d, d9 ks vs n = some d ∧ k d true = some r) ∨ (d9 ks vs n = none ∧ k z false = some r)
 | [], vs, z, n, k, r, h => by
  refine .inr ⟨by cases vs <;> rfl, ?_⟩
  cases vs <;> exact h
 | l :: ks, [], z, n, k, r, h => .inr ⟨rfl, h⟩
 | l :: ks, d :: vs, z, n, k, r, h => by
  simp only [vd] at h
  simp only [d9]
  split at h
  ·rename_i hc
   rw [if_pos hc]
   exact .inl ⟨d, rfl, h⟩
  ·rename_i hc
   rw [if_neg hc]
   exact vh h
theorem Hi {d : DV} {v : Value} {ks : List (List Int)} {vs : List DV} (hH : HR I w H) (hv : VR I w d v) (h : kN H d = some (ks, vs)) : ∃ b es clock val, v = .map (some b) ∧ w.heap[b]? = some (.map es clock) ∧ TabE ks vs val es.toList ∧ ∀ m d, d9 ks vs m = some d → VR I w d (val m) := by
 unfold kN at h
 split at h
 ·simp only [aa, ah] at h
  obtain ⟨rfl, rfl⟩ := h
  cases hv with | tab _ _ val b es cl hR hb hE hL => exact ⟨b, es, cl, val, rfl, hb, hE, hL⟩
 ·rename_i n
  split at h
  ·rename_i ks' vs' hn
   simp only [aa, ah] at h
   obtain ⟨rfl, rfl⟩ := h
   cases hv with | mh _ b hi =>
   obtain ⟨b', es, cl, val, k1, k2, k3, k4⟩ := hH.mp n _ _ hn
   rw [hi] at k1
   simp only [aa, Ent.obj.injEq] at k1
   subst k1
   exact ⟨b, es, cl, val, rfl, k2, k3, k4⟩
  ·cases h
 ·cases h
theorem DY {o : Oper} {t : TypeId} {n : Nat} (ho : o.op = .makeMap t none) (hH : HR I w H) (hn : H n = none) : Done P o a I w H (.mh n) (some (n, .mp [] [])) := by
 have he : ∀ b, (Ent.obj w.heap.size).blk = some b → b = w.heap.size := fun b h => by simpa [Ent.blk] using h.symm
 have hr : (execOp a.eval o).run P w = .ok (.value (.map (some w.heap.size))) (w.alloc (.map #[] 0)) := by
  unfold execOp
  rw [ho]
  refine jW ?_
  simp [Instr.makeMap, Sem.run_bind]
 refine ⟨I.put n (.obj w.heap.size), _, _, hr, Ext.alloc hH hn he, Rows.alloc hH hn _, ?_, ?_⟩
 ·refine HR.alloc hH hn he ⟨w.heap.size, #[], 0, fun _ => undef, dG, qp w _, ⟨fun e h => by simp at h, fun e h => by simp at h, fun m h => by simp [d9] at h⟩, fun m d h => by simp [d9] at h⟩
 ·exact VR.mh n w.heap.size dG
theorem DZ {t kt e : TypeId} {b clock : Nat} {es : Array MapEntry} {j : Int} {v : Value} (ht : P.underlying t = some (.map kt e)) (hk : P.underlying kt = some (.int .i64)) (hb : w.heap[b]? = some (.map es clock)) (hkeys : ∀ x ∈ es.toList, ∃ n, x.key = .int .i64 n) (hfr : ∀ x ∈ es.toList, x.key ≠ .int .i64 j) :
  (Instr.mapUpdate t (.map (some b)) (.int .i64 j) v).run P w = .ok () { w with heap := w.heap.setIfInBounds b (.map (es.push { key := .int .i64 j, val := v, born := clock }) (clock + 1)) } := by
 have hK : MapKept.IsKey (.int .i64) (.int .i64 j) := rfl
 have hck := MapKept.run_checkKey (w := w) hk hK false 9999
 rcases MapKept.findNow_spec hK es.toList 0 (fun x hx => by obtain ⟨m, hm⟩ := hkeys x hx; rw [hm]; rfl) with ⟨h1, h2⟩ | ⟨i, e0, h1, h2, h3⟩
 ·have hf := MapKept.run_findKey (w := w) hk h1
  simp [Instr.mapUpdate, run_underlying ht, MapKept.run_getObj_map hb, hck, hf, MapKept.run_setObj_map _ hb, Result.andThen]
 ·exact absurd h3 (hfr e0 (cv h2))
theorem E9 {o : Oper} {t kt e : TypeId} {m i x : Operand} {n : Nat} {j : Int} {ks : List (List Int)} {vs : List DV} {dx : DV} (ho : o.op = .insert t m i x) (hH : HR I w H) (ht : P.underlying t = some (.map kt e)) (hk : P.underlying kt = some (.int .i64)) (hn : H n = some (.mp ks vs)) (hm : VR I w (.mh n) (a.eval m)) (hi : a.eval i = .int .i64 j) (hx : VR I w dx (a.eval x)) (hfr : (d9 ks vs j).isNone = true) :
  Done P o a I w H .undef (some (n, .mp ([j] :: ks) (dx :: vs))) := by
 obtain ⟨b, es, cl, val, k1, k2, k3, k4⟩ := hH.mp n _ _ hn
 generalize hmv : a.eval m = mv at hm
 cases hm with | mh _ b' hb' =>
 rw [k1] at hb'
 simp only [aa, Ent.obj.injEq] at hb'
 subst hb'
 have hno : ∀ x ∈ es.toList, x.key ≠ .int .i64 j := fun x hx hxk => by
  have := (k3.here x hx j hxk).2
  rw [Option.isNone_iff_eq_none] at hfr
  rw [hfr] at this
  cases this
 have hrun := DZ (v := a.eval x) ht hk k2 k3.keys hno
 have hr : (execOp a.eval o).run P w = .ok .skip { w with heap := w.heap.setIfInBounds b (.map (es.push { key := .int .i64 j, val := a.eval x, born := cl }) (cl + 1)) } := by
  unfold execOp
  rw [ho]
  show ((do Instr.mapUpdate t (a.eval m) (a.eval i) (a.eval x); pure Next.skip) : Sem Next).run P w = _
  rw [hmv, hi]
  simp [Sem.run_bind, hrun]
 obtain ⟨g1, g2⟩ := MapKept.heap_set (o' := .map (es.push { key := .int .i64 j, val := a.eval x, born := cl }) (cl + 1)) k2
 have hbk : (Ent.obj b).blk = some b := rfl
 refine ⟨I, _, _, hr, Ext.write k1 hbk g2 (by simp) rfl rfl rfl, ⟨fun _ _ _ h => h⟩, ?_, rfl⟩
 have hs : Same I I w { w with heap := w.heap.setIfInBounds b (.map (es.push { key := .int .i64 j, val := a.eval x, born := cl }) (cl + 1)) } := Same.write hH k1 hbk g2
 refine HR.write hH k1 hbk g2 (by simp) ⟨b, _, _, fun q => if q = j then a.eval x else val q, k1, g1, ⟨fun e he => ?_, fun e he q hq => ?_, fun q hq => ?_⟩, fun q d hd => ?_⟩
 ·simp only [cB, az, ax] at he
  rcases he with he | rfl
  ·exact k3.keys e he
  ·exact ⟨j, rfl⟩
 ·simp only [cB, az, ax] at he
  rcases he with he | rfl
  ·have hne : q ≠ j := fun h => hno e he (by rw [hq, h])
   obtain ⟨h1, h2⟩ := k3.here e he q hq
   refine ⟨by simp only [hne, au]; exact h1, ?_⟩
   simp only [d9]
   split
   ·rfl
   ·exact h2
  ·simp only [Value.int.injEq, true_and] at hq
   subst hq
   simp [d9]
 ·by_cases hqj : q = j
  ·exact ⟨_, by simp only [cB, az, ax]; exact .inr rfl, by rw [hqj]⟩
  ·have hq' : (d9 ks vs q).isSome = true := by simpa [d9, hqj] using hq
   obtain ⟨e0, h1, h2⟩ := k3.all q hq'
   exact ⟨e0, by simp only [cB, az]; exact .inl h1, h2⟩
 ·by_cases hqj : q = j
  ·subst hqj
   simp only [d9, List.any_cons, List.any_nil, bJ, aZ, if_true, aa] at hd
   subst hd
   simp only [if_true]
   exact VR.keep hs hx
  ·have hq' : d9 ks vs q = some d := by simpa [d9, hqj] using hd
   simp only [hqj, au]
   exact VR.keep hs (k4 q d hq')
theorem Hj {t kt e : TypeId} {b clock : Nat} {es : Array MapEntry} {ks : List (List Int)} {vs : List DV} {val : Int → Value} {n : Int} {c : Bool} {z : Value} (ht : P.underlying t = some (.map kt e)) (hk : P.underlying kt = some (.int .i64)) (hz : (zeroValue e).run P w = .ok z w) (hb : w.heap[b]? = some (.map es clock)) (hE : TabE ks vs val es.toList) :
  ((d9 ks vs n).isSome = true ∧ (Instr.lookup t (.map (some b)) (.int .i64 n) c).run P w = .ok (if c then .tuple #[val n, .bool true] else val n) w) ∨ (d9 ks vs n = none ∧ (Instr.lookup t (.map (some b)) (.int .i64 n) c).run P w = .ok (if c then .tuple #[z, .bool false] else z) w) := by
 have hK : MapKept.IsKey (.int .i64) (.int .i64 n) := rfl
 have hck := MapKept.run_checkKey (w := w) hk hK es.isEmpty 9999
 rcases MapKept.findNow_spec hK es.toList 0 (fun x hx => by obtain ⟨m, hm⟩ := hE.keys x hx; rw [hm]; rfl) with ⟨h1, h2⟩ | ⟨j, e0, h1, h2, h3⟩
 ·refine .inr ⟨?_, ?_⟩
  ·cases hp : d9 ks vs n with
   | none => rfl
   | some u =>
    obtain ⟨e0, he, hk0⟩ := hE.all n (by rw [hp]; rfl)
    exact absurd hk0 (h2 e0 he)
  ·have hf := MapKept.run_findKey (w := w) hk h1
   simp [Instr.lookup, run_underlying ht, MapKept.run_getObj_map hb, hck, hf, hz, Result.andThen]
 ·obtain ⟨k1, k2⟩ := hE.here e0 (cv h2) n h3
  refine .inl ⟨k2, ?_⟩
  rw [k1]
  have hf := MapKept.run_findKey (w := w) hk h1
  simp [Instr.lookup, run_underlying ht, MapKept.run_getObj_map hb, hck, hf, Result.andThen]
end
theorem HR.grow {I I' : In} {w w' : World} {H : Heap} (hH : HR I w H) (hι : I'.ι = I.ι) (hR : ∀ b, I'.R b ↔ I.R b ∨ (w.heap.size ≤ b ∧ b < w'.heap.size)) (hw : ∀ b, b < w.heap.size → w'.heap[b]? = w.heap[b]?) (hsz : w.heap.size ≤ w'.heap.size) : HR I' w' H ∧ Same I I' w w' := by
 have hs : Same I I' w w' := ⟨⟨fun b h => (hR b).2 (.inl h), fun b h => hw b (hH.rlt b h)⟩, fun n b h => by rw [hι]; exact h, fun n sz v h => by rw [hι]; exact h⟩
 refine ⟨HR.of (fun n b hb => (hH.br hb).keep hs (fun e g h1 h2 => hw g (hH.lt n e g h1 h2).1)) (fun n h => by rw [hι]; exact hH.dom n h) (fun n e b h1 h2 => ?_) (fun n m e e' b h1 h2 h3 h4 => ?_) (fun b h => ?_), hs⟩
 ·rw [hι] at h1
  obtain ⟨k1, k2⟩ := hH.lt n e b h1 h2
  refine ⟨by omega, fun h => ?_⟩
  rcases (hR b).1 h with h | h
  ·exact k2 h
  ·omega
 ·rw [hι] at h1 h2
  exact hH.inj n m e e' b h1 h2 h3 h4
 ·rcases (hR b).1 h with h | h
  ·have := hH.rlt b h; omega
  ·exact h.2
section
variable {α : Type} {P : Program} {I : In} {w : World} {T : List DV} {a : Act} {H : Heap}
theorem Fa {xs : List Int} {news : List Value} (h : (Sh.arr xs.length (.int .u8)).K I.R w xs news) : news = xs.map (Value.int .u8) := by
 obtain ⟨_, h2, h3⟩ := h
 have hl : news.length = xs.length := by simpa [Sh.sz] using h2
 refine List.ext_getElem (by simpa using hl) fun i h1 h4 => ?_
 have hi : i < xs.length := by omega
 have := h3 i xs[i] (aF hi)
 simp only [Sh.sz, Nat.mul_one, Sh.K] at this
 have h5 : (news.drop i).take 1 = [news[i]] := by
  rw [bI h1]
  rfl
 rw [h5] at this
 simpa using this
theorem Fb {src dst e : TypeId} {A : Option Addr} {c : Nat} {xs : List Int} {news : List Value} (hs : P.underlying src = some (.slice e)) (he : P.underlying e = some (.int .u8)) (hd : P.underlying dst = some .string) (n1 : (Sh.arr xs.length (.int .u8)).K I.R w xs news) (n2 : A = none → xs = []) (n3 : ∀ ad, A = some ad → ∀ j u, news[j]? = some u → w.cell? (ad.add j) = some u) : (convert src dst (.slice A xs.length c)).run P w = .ok (.string (tU xs)) w := by
 cases A with
 | none =>
  have := n2 rfl
  subst this
  exact run_convert_bytes_nil w src e hs he 0 c dst hd
 | some ad =>
  have hn := Fa n1
  subst hn
  have hl : (loadCells ad xs.length).run P w = .ok (xs.map (Value.int .u8)).toArray w := by
   have := run_loadCells_list (P := P) w ad (xs.map (Value.int .u8)) (fun j v hj => n3 ad rfl j v hj)
   simpa using this
  rw [run_convert_bytes_string w src dst e _ _ c hs he hd, run_bytesToString w _ _ c xs hl, foldl_push_bytes]
  simp [tU, ByteArray.empty, ByteArray.emptyWithCapacity]
  rfl
theorem JG {o : Oper} {src dst e : TypeId} {s : ByteArray} {x : Operand} (hH : HR I w H) (ho : execOp a.eval o = (do Pure.pure (Next.value (← convert src dst (a.eval x))))) (hv : a.eval x = .string s) (hs : P.underlying src = some .string) (hd : P.underlying dst = some (.slice e)) (he : P.underlying e = some (.int .u8)) : Done P o a I w H (.vs (.int .u8) (tV s)) none := by
 have hr := run_bytes_of_string (P := P) w src dst e s hs hd he
 generalize hcap : grownCap w s.size 0 e = cap at hr
 have hge : s.size ≤ cap := by rw [← hcap]; exact grownCap_ge w s.size 0 e
 generalize hob : Obj.cells (bytesRow s cap) e ((bytesRow s cap).size, (bytesRow s cap).size + 1) = ob at hr
 have hsz : (w.drew.alloc ob).heap.size = w.heap.size + 1 := by
  show (w.heap.push ob).size = _
  simp
 have hold : ∀ b, b < w.heap.size → (w.drew.alloc ob).heap[b]? = w.heap[b]? := fun b hb => by
  show (w.heap.push ob)[b]? = _
  rw [Array.getElem?_push_lt hb, Array.getElem?_eq_getElem hb]
 obtain ⟨q1, q2⟩ := hH.grow (I' := ⟨I.ι, fun b => I.R b ∨ (w.heap.size ≤ b ∧ b < (w.drew.alloc ob).heap.size)⟩) (w' := w.drew.alloc ob) rfl (fun b => Iff.rfl) hold (by omega)
 refine ⟨⟨I.ι, fun b => I.R b ∨ (w.heap.size ≤ b ∧ b < (w.drew.alloc ob).heap.size)⟩, w.drew.alloc ob, .value (.slice (some ⟨w.heap.size, 0, none⟩) s.size cap), ?_, ⟨fun n b h => h, fun b h => .inl h, fun b hb _ => hold b hb, fun n e b h hb => .inl ⟨n, e, h, hb⟩, fun b h => ?_, by omega, rfl, rfl, rfl⟩, ⟨fun n sz v h => h⟩, q1, ?_⟩
 ·rw [ho, hv]
  exact jW hr
 ·rcases h with h | h
  ·exact .inl h
  ·exact .inr (.inr h.1)
 ·have hlen : (tV s).length = s.size := by
   show (s.data.toList.map _).length = s.data.size
   rw [bK, Array.length_toList]
  refine .vs _ _ _ ⟨some ⟨w.heap.size, 0, none⟩, cap, by rw [hlen], by omega, fun _ => ⟨_, rfl, rfl, .inr ⟨ak _, (by show w.heap.size < (w.drew.alloc ob).heap.size; omega)⟩, fun i y hy => ?_⟩⟩
  refine ⟨[.int .u8 y], rfl, rfl, fun j u hu => ?_⟩
  have hi : i < s.data.size := by
   have := (List.getElem?_eq_some_iff.1 hy).1
   rw [hlen] at this
   exact this
  have hj : j = 0 := by
   have := (List.getElem?_eq_some_iff.1 hu).1
   simp at this
   omega
  subst hj
  simp only [bp, aa] at hu
  subst hu
  have hy2 : y = (s.data[i].toNat : Int) := by
   have := (List.getElem?_eq_some_iff.1 hy).2
   simp [tV] at this
   exact this.symm
  have ha : Addr.add ⟨w.heap.size, 0, none⟩ (i * Sh.sz (.int .u8) + 0) = ⟨w.heap.size, i, none⟩ := by
   unfold Addr.add
   split <;> simp_all [Sh.sz]
  rw [ha, ← hob]
  have := World.cell?_alloc_mark w.drew (bytesRow s cap) e ((bytesRow s cap).size, (bytesRow s cap).size + 1) i
  rw [show w.drew.heap.size = w.heap.size from rfl] at this
  rw [this, bytesRow_at s cap i hi, hy2]
theorem Fc {d : Nat} {o : Oper} {k : DV → fD → Option α} {r : α} (hT : TR I w T a) (hH : HR I w H) (h : eh P d o T H k = some r) : ∃ v act, k v act = some r ∧ Done P o a I w H v act := by
 unfold eh at h
 simp only at h
 split at h
 ·rename_i x ho
  exact ⟨_, _, h, Done.pure hH (yL ho) (dm hT x)⟩
 ·rename_i x ho
  exact ⟨_, _, h, Done.pure hH (uG ho) (dm hT x)⟩
 ·rename_i c x y ho
  obtain ⟨v, h1, h2⟩ := AN (P := P) (dm hT c) (dm hT x) (dm hT y) h
  refine ⟨_, _, h1, ?_⟩
  obtain ⟨u, g1, g2⟩ := h2
  refine Done.pure hH ?_ g2
  unfold execOp
  rw [ho]
  simp only [Sem.run_bind] at g1 ⊢
  cases hb : (asBool (a.eval c)).run P w <;> rw [hb] at g1 <;> simp_all
 ·rename_i e ho
  split at h
  ·rename_i its hz
   obtain ⟨n, hn, h1⟩ := kw h
   exact ⟨_, _, h1, Hf ho hH hn hz⟩
  ·cases h
 ·rename_i e x ho
  split at h
  ·rename_i its hz
   split at h
   ·rename_i hs
    obtain ⟨n, hn, h1⟩ := kw h
    exact ⟨_, _, h1, Ki ho hT hH hn hs hz⟩
   ·cases h
  ·cases h
 ·rename_i t ps ho
  split at h
  ·rename_i its hz
   split at hz
   ·rename_i hne
    split at h
    ·rename_i out hf
     exact ⟨_, _, h, Hh ho hT hH hne hz hf⟩
    ·cases h
   ·cases hz
  ·cases h
 ·rename_i t n ps ho
  split at h
  ·rename_i e hu
   split at h
   ·rename_i s hsh
    split at h
    ·rename_i hi
     split at h
     ·rename_i hs
      split at h
      ·rename_i xs hx
       split at h
       ·rename_i h1
        split at h
        ·rename_i h2
         simp only [ai, aE, aj, ae] at h2
         obtain ⟨m, hn, h3⟩ := kw h
         exact ⟨_, _, h3, z9 ho hT hH hn hu hi hs hx h1 h2.1 h2.2⟩
        ·cases h
       ·cases h
      ·cases h
     ·cases h
    ·cases h
   ·cases h
  ·cases h
 ·rename_i t x ho
  obtain ⟨v, h1, h2⟩ := fZ h
  exact ⟨_, _, h2, JC ho hT hH h1⟩
 ·rename_i t x y ho
  split at h
  ·rename_i q hq
   exact ⟨_, _, h, Hg ho hT hH hq⟩
  ·cases h
 ·rename_i x ho
  have hx := dm hT x
  generalize hd : dh T x = dx at h hx
  generalize hv : a.eval x = u at hx
  have he : ∀ {v : Value}, u = v → (match v with | .pointer (some _) => True | .func (.func _) _ _ => True | _ => False) → (execOp a.eval o).run P w = .ok (.value v) w := by
   rintro v rfl hm
   unfold execOp
   rw [ho]
   simp only [hv]
   cases u with
   | pointer q => cases q with
    | none => exact hm.elim
    | some q => rfl
   | func F x y => cases F with
    | func f => rfl
    | _ => exact hm.elim
   | _ => exact hm.elim
  split at h
  ·refine ⟨_, _, h, ?_⟩
   cases hx with | ptr _ _ _ b h1 hp => exact Done.pure hH (he rfl trivial) (.ptr _ _ _ b h1 hp)
  ·refine ⟨_, _, h, ?_⟩
   cases hx with | rp _ _ _ _ b len cap h1 hi hp => exact Done.pure hH (he rfl trivial) (.rp _ _ _ _ b len cap h1 hi hp)
  ·refine ⟨_, _, h, ?_⟩
   cases hx with | pi _ ad cs h0 hR him hC hc => exact Done.pure hH (he rfl trivial) (.pi _ ad cs h0 hR him hC hc)
  ·refine ⟨_, _, h, ?_⟩
   cases hx with | fn F q1 q2 a' b' h1 h2 => exact Done.pure hH (he rfl trivial) (.fn _ _ _ a' b' h1 h2)
  ·cases h
 ·rename_i op t x y sp ho
  obtain ⟨v, h1, h2⟩ := CK (P := P) (x := x) (y := y) (dm hT x) (dm hT y) h
  exact ⟨_, _, h1, Done.makes hH (by unfold execOp; rw [ho]) h2⟩
 ·rename_i op t x ho
  have hx := dm hT x
  generalize hd : dh T x = dx at h hx
  generalize hv : a.eval x = u at hx
  split at h
  ·obtain rfl := hx.sc_eq
   exact ⟨_, _, h, Done.makes hH (by unfold execOp; rw [ho]) ⟨_, by rw [hv]; rfl, .sc _ rfl⟩⟩
  ·obtain rfl := hx.sc_eq
   exact ⟨_, _, h, Done.makes hH (by unfold execOp; rw [ho]) ⟨_, by rw [hv]; rfl, .sc _ rfl⟩⟩
  ·cases h
 ·rename_i s t x ho
  have hx := dm hT x
  generalize hd : dh T x = dx at h hx
  generalize hv : a.eval x = u at hx
  split at h
  ·rename_i hs ht
   obtain rfl := hx.sc_eq
   exact ⟨_, _, h, Done.makes hH (by unfold execOp; rw [ho]) ⟨_, by rw [hv]; simp [convert, run_underlying hs, run_underlying ht, Conv.intToInt], .sc _ rfl⟩⟩
  ·rename_i hs ht
   obtain rfl := hx.sc_eq
   exact ⟨_, _, h, Done.makes hH (by unfold execOp; rw [ho]) ⟨_, by rw [hv]; simp [convert, run_underlying hs, run_underlying ht], .sc _ rfl⟩⟩
  ·rename_i e hs ht
   split at h
   ·rename_i he
    split at h
    ·rename_i xs hxs
     obtain ⟨A, c, rfl, news, n1, n2, n3⟩ := AU hH hx hxs
     refine ⟨_, _, h, Done.makes hH (by unfold execOp; rw [ho]) ⟨.string (tU xs), ?_, .sc _ rfl⟩⟩
     rw [hv]
     exact Fb hs he ht n1 n2 n3
    ·cases h
   ·cases h
  ·rename_i e s hs ht
   split at h
   ·rename_i he
    obtain rfl := hx.sc_eq
    exact ⟨_, _, h, JG hH (by unfold execOp; rw [ho]) (by rw [hv]) hs ht he⟩
   ·cases h
  ·cases h
 ·rename_i F q1 q2 ho
  exact ⟨_, _, h, Done.makes hH (by unfold execOp; rw [ho]) ⟨_, rfl, .fn _ _ _ _ _ (kh hT q1) (kh hT q2)⟩⟩
 ·rename_i t l c ho
  split at h
  ·rename_i e hu
   split at h
   ·rename_i s n m hsh hl hc
    split at h
    ·rename_i h1
     split at h
     ·rename_i hz
      obtain ⟨q, hn, h3⟩ := kw h
      exact ⟨_, _, h3, AR ho hT hH hn hu hl hc h1 hz⟩
     ·cases h
    ·cases h
   ·cases h
  ·cases h
 ·rename_i t x lo hi mx ho
  obtain ⟨v, h1, h2⟩ := E6 (P := P) (mx' := mx.map a.eval) hH (dm hT x) (Kl hT lo) (Kl hT hi) (fun e => by cases mx <;> simp_all) h
  exact ⟨_, _, h1, Done.makes hH (by unfold execOp; rw [ho]) h2⟩
 ·rename_i t x f ho
  obtain ⟨v, h1, h2⟩ := fZ h
  exact ⟨_, _, h2, Done.makes hH (by unfold execOp; rw [ho]) (ra (dm hT x) h1)⟩
 ·rename_i t x f ho
  obtain ⟨v, h1, h2⟩ := fZ h
  exact ⟨_, _, h2, Done.makes hH (by unfold execOp; rw [ho]) (yO (dm hT x) h1)⟩
 ·rename_i t x i ho
  have hi := dm hT i
  split at h
  ·rename_i kd j hj
   rw [hj] at hi
   obtain ⟨v, h1, h2⟩ := uK (P := P) (kd := kd) hH (dm hT x) h
   exact ⟨_, _, h1, Done.makes hH (by unfold execOp; rw [ho]) (hi.sc_eq ▸ h2)⟩
  ·cases h
 ·rename_i t x i ho
  have hi := dm hT i
  split at h
  ·rename_i kd j hj
   rw [hj] at hi
   obtain ⟨v, h1, h2⟩ := yN (P := P) (kd := kd) (dm hT x) h
   exact ⟨_, _, h1, Done.makes hH (by unfold execOp; rw [ho]) (hi.sc_eq ▸ h2)⟩
  ·cases h
 ·rename_i t ho
  split at h
  ·rename_i kt e ht
   obtain ⟨n, h1, h2⟩ := kw h
   exact ⟨_, _, h2, DY ho hH h1⟩
  ·cases h
 ·rename_i t m i x ho
  have hm := dm hT m
  have hi := dm hT i
  split at h
  ·rename_i kt e n j ht hmd hid
   split at h
   ·rename_i ks vs hk hn
    split at h
    ·rename_i hfr
     rw [hid] at hi
     rw [hmd] at hm
     exact ⟨_, _, h, E9 ho hH ht hk hn hm hi.sc_eq (dm hT x) hfr⟩
    ·cases h
   ·cases h
  ·cases h
 ·rename_i t x i c ho
  have hx := dm hT x
  have hi := dm hT i
  split at h
  ·rename_i kt e ks vs n ht hxd hid
   split at h
   ·rename_i it hk hit
    split at h
    ·rename_i z hz
     rw [hid] at hi
     obtain ⟨b, es, cl, us, hv, hb, hE, hL⟩ := Hi hH hx hxd
     have hz' : (zeroValue e).run P w = .ok z w := by simp [zeroValue, typeInfo, Sem.run_bind, hit, hz]
     rcases Hj (c := c) (n := n) ht hk hz' hb hE with ⟨g1, g2⟩ | ⟨g1, g2⟩
     ·rcases vh h with ⟨d, k1, k3⟩ | ⟨k1, k3⟩
      ·have k2 := hL n d k1
       refine ⟨_, _, k3, Done.makes hH (by unfold execOp; rw [ho]) ⟨_, by rw [hv, hi.sc_eq]; exact g2, ?_⟩⟩
       cases c
       ·exact k2
       ·exact .tup _ _ (.cons _ _ _ _ k2 (.cons _ _ _ _ (.sc _ rfl) .nil))
      ·rw [k1] at g1; cases g1
     ·rcases vh h with ⟨d, k1, k3⟩ | ⟨k1, k3⟩
      ·rw [g1] at k1; cases k1
      ·refine ⟨_, _, k3, Done.makes hH (by unfold execOp; rw [ho]) ⟨_, by rw [hv, hi.sc_eq]; exact g2, ?_⟩⟩
       cases c
       ·exact wJ z
       ·exact .tup _ _ (.cons _ _ _ _ (wJ z) (.cons _ _ _ _ (.sc _ rfl) .nil))
    ·cases h
   ·cases h
  ·cases h
 ·rename_i x i ho
  have hx := dm hT x
  generalize hd : dh T x = dx at h hx
  generalize hv : a.eval x = u at hx
  split at h
  ·rename_i vs
   obtain ⟨v, h1, h2⟩ := fZ h
   cases hx with | tup _ vs' hL =>
   obtain ⟨u, g1, g2⟩ := hL.get h1
   refine ⟨_, _, h2, Done.makes hH (by unfold execOp; rw [ho]) ⟨u, ?_, g2⟩⟩
   rw [cb] at g1
   simp [Instr.extract, hv, g1]
  ·cases h
 ·rename_i c ho
  split at h
  ·rename_i hc
   split at h
   ·rename_i x t hx ht
    split at h
    ·rename_i n hn
     refine ⟨_, _, h, Done.makes hH (gu (b := .len) (s := Builtin.len_ c.argTypes o.type (c.args.map a.eval)) ho hc rfl) ⟨_, ?_, .sc _ rfl⟩⟩
     have e1 : c.args.map a.eval = #[a.eval x] := by
      apply Array.toList_inj.1
      rw [cm, hx]; rfl
     have := CL (ty := o.type) hH (dm hT x) hn
     rw [e1]
     have e2 : ∀ (A : Array TypeId), A[0]? = some t → Builtin.len_ A o.type #[a.eval x] = Builtin.len_ #[t] o.type #[a.eval x] := by
      intro A hA
      unfold Builtin.len_
      have : A.getD 0 0 = t := by simp [hA]
      simp [hA]
     rw [e2 _ ht]
     exact this
    ·cases h
   ·cases h
  ·rename_i hc
   split at h
   ·rename_i kk x rr hx
    obtain ⟨v, h1, h2⟩ := fZ h
    have hL := kh hT c.args
    rw [hx] at hL
    generalize hA : (c.args.map a.eval).toList = vs at hL
    cases hL with | cons _ _ u vs' hd hr =>
    obtain rfl := hd.sc_eq
    obtain ⟨n, rfl, g2⟩ := yf (P := P) hr h1
    refine ⟨_, _, h2, Done.makes hH (gu (b := .min) (s := Builtin.min_ c.argTypes o.type (c.args.map a.eval)) ho hc rfl) ⟨_, ?_, .sc _ rfl⟩⟩
    unfold Builtin.min_
    rw [hA]
    exact g2
   ·cases h
  ·rename_i hc
   split at h
   ·rename_i kk x rr hx
    obtain ⟨v, h1, h2⟩ := fZ h
    have hL := kh hT c.args
    rw [hx] at hL
    generalize hA : (c.args.map a.eval).toList = vs at hL
    cases hL with | cons _ _ u vs' hd hr =>
    obtain rfl := hd.sc_eq
    obtain ⟨n, rfl, g2⟩ := yg (P := P) hr h1
    refine ⟨_, _, h2, Done.makes hH (gu (b := .max) (s := Builtin.max_ c.argTypes o.type (c.args.map a.eval)) ho hc rfl) ⟨_, ?_, .sc _ rfl⟩⟩
    unfold Builtin.max_
    rw [hA]
    exact g2
   ·cases h
  ·cases h
 ·cases h
end
section
variable {P : Program} {I I' : In} {w w' : World} {T : List DV} {a : Act} {H : Heap} {α : Type}
theorem vi (n : Nat) (g : Sub) : ∀ l : List DV, d6 n g l = l.map (DV.sub n g)
 | [] => rfl
 | d :: r => by simp [d6, vi n g r]
theorem Fd (n : Nat) (g : Sub) (l : List DV) (i : Nat) : (d6 n g l).getD i .undef = (l.getD i .undef).sub n g := by
 rw [vi]
 simp only [av, cd]
 cases l[i]? <;> rfl
theorem rO : ∀ l : List DV, iC l = l.map DV.bare
 | [] => rfl
 | d :: r => by simp [iC, rO r]
theorem D0 (l : List DV) (i : Nat) : (iC l).getD i .undef = (l.getD i .undef).bare := by
 rw [rO]
 simp only [av, cd]
 cases l[i]? <;> rfl
theorem TR.keep (hs : Same I I' w w') (hT : TR I w T a) : TR I' w' T a := ⟨hT.len, fun i => VR.keep hs (hT.val i), hT.df⟩
theorem TR.sub {n : Nat} {g : Sub} (hs : But n g I I' w w') (hT : TR I w T a) : TR I' w' (d6 n g T) a :=
 ⟨by rw [vi, bK]; exact hT.len, fun i => by rw [Fd]; exact VR.sub hs (hT.val i), hT.df⟩
theorem TR.bare (hs : ObjS I I' w w') (hT : TR I w T a) : TR I' w' (iC T) a :=
 ⟨by rw [rO, bK]; exact hT.len, fun i => by rw [D0]; exact VR.bare hs (hT.val i), hT.df⟩
theorem Km {n : Nat} {E : TypeId} {s : Sh} {xs : List s.T} (hH : HR I w H) (h : H n = some (.row E s xs)) : ∃ I', HR I' w (H.sub n (.vs s xs)) ∧ Ext I w I' w ∧ But n (.vs s xs) I I' w w := by
 obtain ⟨v, cs, h1, h2, h3⟩ := hH.row n E s xs h
 have hb : But n (.vs s xs) I ⟨fun m => if m = n then none else I.ι m, fun b => I.R b ∨ v.ownBlock = some b⟩ w w := by
  refine ⟨⟨fun b h => .inl h, fun _ _ => rfl⟩, fun m b hm => ?_, fun m sz u hm h => ?_, ?_⟩
  ·show (if m = n then none else I.ι m) = _
   rw [if_neg]
   ·exact hm
   ·rintro rfl; rw [h1] at hm; cases hm
  ·show (if m = n then none else I.ι m) = _
   rw [if_neg hm]
   exact h
  ·intro s' xs' e sz u hu
   rw [h1] at hu
   simp only [aa, Ent.row.injEq] at hu
   obtain ⟨rfl, rfl⟩ := hu
   cases e
   refine ⟨rfl, ?_⟩
   rcases h2.2 with ⟨rfl, h0⟩ | ⟨g, cap, cur, rfl, _, hh, hc, _⟩
   ·have : xs = [] := bj h0
    subst this
    exact ⟨none, 0, rfl, ak _, fun h => absurd rfl h⟩
   ·obtain ⟨_, _, cs', k1, k2, k3⟩ := mq hH h h1
    refine ⟨_, cap, rfl, hc, fun hne => ⟨_, rfl, rfl, .inr rfl, fun i x hx => ?_⟩⟩
    have hi := (List.getElem?_eq_some_iff.1 hx).1
    have hk := k1.2.2 i x hx
    have hl : i * s.sz + s.sz ≤ xs.length * s.sz := by rw [← aQ]; exact aU _ hi
    refine ⟨_, Sh.K_len hk, Sh.K_keep ⟨fun b h => .inl h, fun _ _ => rfl⟩ hk, fun j u hu => ?_⟩
    rw [Addr.add_mid, bq]
    refine k3 _ u ?_
    rw [aY] at hu
    split at hu
    ·rw [ba] at hu
     exact hu
    ·cases hu
 refine ⟨_, HR.of (fun m b hm => ?_) (fun m hm => ?_) (fun m e b hm he => ?_) (fun m m' e e' b hm hm' he he' => ?_) (fun b hR => ?_), ⟨hb.obj, fun b h => .inl h, fun _ _ _ => rfl, fun m e b hm he => ?_, fun b hR => ?_, ak _, rfl, rfl, rfl⟩, hb⟩
 ·simp only [Heap.sub] at hm
  split at hm
  ·cases hm
  ·rename_i hmn
   split at hm
   ·rename_i b0 hb0
    simp only [aa] at hm
    subst hm
    cases b0 with
    | obj cs0 =>
     obtain ⟨b, c, t, k1, k2, k3⟩ := hH.obj m cs0 hb0
     exact ⟨b, c, t, hb.obj _ _ k1, k2, CR.sub hb k3⟩
    | row E' s' xs' =>
     obtain ⟨u, cs', k1, k2, k3⟩ := hH.row m E' s' xs' hb0
     exact ⟨u, cs', hb.row _ _ _ hmn k1, k2, Sh.K_keep hb.keeps k3⟩
    | mp ks vs => exact MR.sub hb (hH.mp m ks vs hb0) (fun _ _ => rfl)
   ·cases hm
 ·show (if m = n then none else I.ι m) = none
  split
  ·rfl
  ·rename_i hmn
   simp only [Heap.sub, hmn, au] at hm
   split at hm
   ·cases hm
   ·rename_i hb0
    exact hH.dom m hb0
 ·dsimp only at hm
  split at hm
  ·cases hm
  ·rename_i hmn
   obtain ⟨k1, k2⟩ := hH.lt m e b hm he
   refine ⟨k1, ?_⟩
   rintro (hR | hR)
   ·exact k2 hR
   ·exact hmn (hH.inj m n e _ b hm h1 he hR)
 ·dsimp only at hm hm'
  split at hm
  ·cases hm
  ·split at hm'
   ·cases hm'
   ·exact hH.inj m m' e e' b hm hm' he he'
 ·rcases hR with hR | hR
  ·exact hH.rlt b hR
  ·exact (hH.lt n _ b h1 hR).1
 ·dsimp only at hm
  split at hm
  ·cases hm
  ·exact .inl ⟨m, e, hm, he⟩
 ·rcases hR with hR | hR
  ·exact .inl hR
  ·exact .inr (.inl ⟨n, _, h1, hR⟩)
theorem ja : ∀ {r : List Nat} {I : In} {H : Heap} {A T : List DV} {vs : List Value} {A' T' : List DV} {H' : Heap}, HR I w H → TR I w T a → LR I w A vs → oj r A T H = (A', T', H') → ∃ I', HR I' w H' ∧ Ext I w I' w ∧ TR I' w T' a ∧ LR I' w A' vs
 | [], I, H, A, T, vs, A', T', H', hH, hT, hA, h => by
  simp only [oj, ah] at h
  obtain ⟨rfl, rfl, rfl⟩ := h
  exact ⟨I, hH, Ext.refl I w, hT, hA⟩
 | n :: r, I, H, A, T, vs, A', T', H', hH, hT, hA, h => by
  simp only [oj] at h
  split at h
  ·rename_i E s xs hn
   obtain ⟨I1, g1, g2, g3⟩ := Km hH hn
   obtain ⟨I2, k1, k2, k3, k4⟩ := ja g1 (TR.sub g3 hT) (LR.sub g3 hA) h
   exact ⟨I2, k1, g2.trans k2, k3, k4⟩
  ·exact ja hH hT hA h
def Goes (P : Program) (o : Oper) (a : Act) (I : In) (w : World) (T' : List DV) (H' : Heap) : Prop :=
 ∃ I' w' n u, (execOp a.eval o).run P w = .ok n w' ∧ Ext I w I' w' ∧ HR I' w' H' ∧ TR I' w' T' (a.put o.dst u) ∧ (n = .value u ∨ n = .skip ∧ u = undef)
theorem Done.same {o : Oper} {v : DV} {act : fD} (hH : HR I w H) (h : Ext I w I' w') (hr : Rows I I') : Same I I' w w' := ⟨h.keeps hH, h.obj, hr.row⟩
theorem Done.goes {o : Oper} {v : DV} {act : fD} (hT : TR I w T a) (hH : HR I w H) (h : Done P o a I w H v act) : Goes P o a I w (dv T o.dst v) (H.act act) := by
 obtain ⟨I', w', n, h1, h2, h3, h4, h5⟩ := h
 have hs : Same I I' w w' := ⟨h2.keeps hH, h2.obj, h3.row⟩
 cases n with
 | value u => exact ⟨I', w', _, u, h1, h2, h4, (hT.keep hs).put _ h5, .inl rfl⟩
 | skip =>
  have : v = .undef := h5
  subst this
  exact ⟨I', w', _, undef, h1, h2, h4, (hT.keep hs).put _ (.undef _), .inr ⟨rfl, rfl⟩⟩
 | _ => exact h5.elim
theorem Goes.ext {o : Oper} {I1 : In} {T' : List DV} {H' : Heap} (h : Ext I w I1 w) (hg : Goes P o a I1 w T' H') : Goes P o a I w T' H' := by
 obtain ⟨I', w', n, u, h1, h2, h3⟩ := hg
 exact ⟨I', w', n, u, h1, h.trans h2, h3⟩
theorem JH {n : Nat} {v' : Value} {E : TypeId} {s : Sh} {xs : List s.T} {cs : List Value} (hH : HR I w H) (hn : H n = none) (hg : w.grownBy w' none) (hv : v'.ownBlock = none ∨ v'.ownBlock = some w.heap.size) (hown : w'.ownsRow 0 E s.sz v' xs.length cs) (hk : (Sh.arr xs.length s).K I.R w xs cs) :
  HR (I.put n (.row s.sz v')) w' (H.set n (some (.row E s xs))) ∧ Ext I w (I.put n (.row s.sz v')) w' ∧ Same I (I.put n (.row s.sz v')) w w' := by
 have h0 := hH.dom n hn
 have hblk : ∀ b, b < w.heap.size → w'.heap[b]? = w.heap[b]? := fun b hb => hg.block b hb (by simp)
 have hlt : ∀ b, v'.ownBlock = some b → b = w.heap.size ∧ b < w'.heap.size := by
  intro b hb
  refine ⟨by rcases hv with hv | hv <;> rw [hv] at hb <;> simp_all, ?_⟩
  rcases hown.2 with ⟨rfl, _⟩ | ⟨g, cap, cur, rfl, _, hh, _⟩
  ·cases hb
  ·simp only [Value.ownBlock, aa] at hb
   subst hb
   exact (Array.getElem?_eq_some_iff.1 hh).1
 have hs : Same I (I.put n (.row s.sz v')) w w' := by
  refine ⟨⟨fun _ h => h, fun b hb => hblk b (hH.rlt b hb)⟩, fun m b h => ?_, fun m sz u h => ?_⟩
  ·rw [dz]
   ·exact h
   ·rintro rfl; rw [h0] at h; cases h
  ·rw [dz]
   ·exact h
   ·rintro rfl; rw [h0] at h; cases h
 refine ⟨HR.of (fun m b h => ?_) (fun m h => ?_) (fun m e b h hb => ?_) (fun m m' e e' b h h' hb hb' => ?_) (fun b h => ?_), ⟨hs.obj, fun _ h => h, fun b hb _ => hblk b hb, fun m e b h hb => ?_, fun b h => .inl h, hg.size, hg.os, hg.tape, hg.output⟩, hs⟩
 ·by_cases hm : m = n
  ·subst hm
   rw [Heap.set_same] at h
   simp only [aa] at h
   subst h
   exact ⟨v', cs, dG, hown, Sh.K_keep hs.keeps hk⟩
  ·rw [fB hm] at h
   exact (hH.br h).keep hs (fun e g h1 h2 => hblk g (hH.lt m e g h1 h2).1)
 ·by_cases hm : m = n
  ·subst hm; rw [Heap.set_same] at h; cases h
  ·rw [fB hm] at h
   rw [dz hm]
   exact hH.dom m h
 ·by_cases hm : m = n
  ·subst hm
   rw [dG] at h
   simp only [aa] at h
   subst h
   obtain ⟨k1, k2⟩ := hlt b hb
   exact ⟨k2, fun hR => by have := hH.rlt b hR; omega⟩
  ·rw [dz hm] at h
   obtain ⟨k1, k2⟩ := hH.lt m e b h hb
   exact ⟨bk k1 hg.size, k2⟩
 ·by_cases hm : m = n
  ·by_cases hm' : m' = n
   ·rw [hm, hm']
   ·exfalso
    subst hm
    rw [dG] at h
    rw [dz hm'] at h'
    simp only [aa] at h
    subst h
    have := (hlt b hb).1
    have := (hH.lt m' e' b h' hb').1
    omega
  ·by_cases hm' : m' = n
   ·exfalso
    subst hm'
    rw [dG] at h'
    rw [dz hm] at h
    simp only [aa] at h'
    subst h'
    have := (hlt b hb').1
    have := (hH.lt m e b h hb).1
    omega
   ·rw [dz hm] at h
    rw [dz hm'] at h'
    exact hH.inj m m' e e' b h h' hb hb'
 ·exact bk (hH.rlt b h) hg.size
 ·by_cases hm : m = n
  ·subst hm
   rw [dG] at h
   simp only [aa] at h
   subst h
   exact .inr (by have := (hlt b hb).1; omega)
  ·rw [dz hm] at h
   exact .inl ⟨m, e, h, hb⟩
theorem rP {E : TypeId} {sz n l cap : Nat} {b : Nat} {cs : List Value} (h : w.ownsRow 0 E sz (.slice (some ⟨b, 0, none⟩) n cap) n cs) (hl : l ≤ n) : w.ownsRow 0 E sz (.slice (some ⟨b, 0, none⟩) l cap) l (cs.take (l * sz)) := by
 have hle : l * sz ≤ n * sz := aU _ hl
 refine ⟨by rw [cn, h.1]; omega, ?_⟩
 rcases h.2 with ⟨e, _⟩ | ⟨g, cap', cur, e, h1, h2, h3, h4, h5, h6⟩
 ·cases e
 ·simp only [Value.slice.injEq, aa, Addr.mk.injEq, bC] at e
  obtain ⟨rfl, _, rfl⟩ := e
  refine .inr ⟨b, cap, cur, rfl, h1, h2, by omega, h4, h5, ?_⟩
  rw [← h6, List.take_take]
  congr 1
  omega
theorem wP {R : Nat → Prop} {s : Sh} {n l : Nat} {xs : List s.T} {cs : List Value} (h : (Sh.arr n s).K R w xs cs) (hl : l ≤ n) : (Sh.arr (xs.take l).length s).K R w (xs.take l) (cs.take (l * s.sz)) := by
 have hle : l * s.sz ≤ n * s.sz := aU _ hl
 have h1 := h.1
 have h2 := h.2.1
 refine ⟨rfl, by simp only [cn]; rw [h1, h2, Nat.min_eq_left hl, Nat.min_eq_left hle], fun i x hx => ?_⟩
 rw [aY] at hx
 split at hx
 ·rename_i hil
  have h3 := h.2.2 i x hx
  have : i * s.sz + s.sz ≤ l * s.sz := by rw [← aQ]; exact aU _ hil
  rw [List.drop_take, List.take_take]
  have e : min s.sz (l * s.sz - i * s.sz) = s.sz := by omega
  rw [e]
  exact h3
 ·cases hx
theorem yV {R : Nat → Prop} (s : Sh) : (Sh.arr ([] : List s.T).length s).K R w ([] : List s.T) [] := ⟨rfl, by simp, fun i x hx => by simp at hx⟩
theorem oX {o : Oper} {c : Call} {x y : Operand} {t : TypeId} {v : Value} (ho : o.op = .call c) (hc : c.callee = .builtin .append) (hx : c.args.toList = [x, y]) (ht : c.argTypes.toList = [t, t]) (h : (Builtin.append_ #[t, t] o.type #[a.eval x, a.eval y]).run P w = .ok v w') : (execOp a.eval o).run P w = .ok (.value v) w' := by
 rw [gu (b := .append) (s := Builtin.append_ c.argTypes o.type (c.args.map a.eval)) ho hc rfl]
 refine jW ?_
 have e1 : c.args.map a.eval = #[a.eval x, a.eval y] := by
  apply Array.toList_inj.1
  rw [cm, hx]; rfl
 have e2 : c.argTypes = #[t, t] := Array.toList_inj.1 ht
 rw [e1, e2]
 exact h
theorem D1 {d : Nat} {o : Oper} {c : Call} {x y : Operand} {t e : TypeId} {s : Sh} {ys : List s.T} {k : List DV → Heap → Option α} {r : α} (hT : TR I w T a) (hH : HR I w H) (ho : o.op = .call c) (hc : c.callee = .builtin .append) (hx : c.args.toList = [x, y]) (ht : c.argTypes.toList = [t, t])
  (hu : P.underlying t = some (.slice e)) (hz : jE P e s = true) (hy : fc H s (dh T y) = some ys) (h : iY P d o e s (dh T x) ys T H k = some r) : ∃ T' H', k T' H' = some r ∧ Goes P o a I w T' H' := by
 have hvx := dm hT x
 have hvy := dm hT y
 generalize dh T x = dx at h hvx
 generalize hax : a.eval x = ux at hvx
 unfold iY at h
 split at h
 ·rename_i z cp
  obtain rfl := hvx.sc_eq
  split at h
  ·rename_i hcnd
   simp only [ai, aj] at hcnd
   obtain ⟨⟨⟨rfl, rfl⟩, hb⟩, h1⟩ := hcnd
   obtain ⟨n, hn, h2⟩ := kw h
   obtain ⟨v', w', cs', g1, g2, g3, g4, g5⟩ := qu (P := P) (t := t) (ty := o.type) (xs := []) (v := .slice none 0 0) (cs := []) hH hz hu ⟨by simp, .inl ⟨rfl, rfl⟩⟩ (yV s) hvy hy (by simpa using hb) h1
   obtain ⟨k1, k2, k3⟩ := JH hH hn g3 g4 g2 g5
   refine ⟨_, _, h2, _, w', _, v', oX ho hc hx ht (by rw [hax]; exact g1), k2, k1, (hT.keep k3).put _ (VR.rw n s.sz v' dG ?_), .inl rfl⟩
   rcases g2.2 with ⟨rfl, _⟩ | ⟨g, c', cur, rfl, _⟩
   ·exact ⟨_, _, _, rfl⟩
   ·exact ⟨_, _, _, rfl⟩
  ·cases h
 ·rename_i n
  split at h
  ·rename_i E' s' xs hrow
   split at h
   ·rename_i hE
    subst hE
    split at h
    ·rename_i hs' hq
     cases hs'
     split at h
     ·rename_i hcnd
      simp only [ai, aj] at hcnd
      cases hvx with | rw _ sz v hi hs =>
      obtain ⟨v0, cs, m1, m2, m3⟩ := hH.row n E' s xs hrow
      rw [hi] at m1
      simp only [aa, Ent.row.injEq] at m1
      obtain ⟨rfl, rfl⟩ := m1
      obtain ⟨v', w', cs', g1, g2, g3, g4, g5⟩ := qu (P := P) (t := t) (ty := o.type) hH hz hu m2 m3 hvy hy hcnd.1 hcnd.2
      obtain ⟨k1, k2, k3⟩ := Kk hH hi g3 g4 g2 g5
      refine ⟨_, _, h, _, w', _, v', oX ho hc hx ht (by rw [hax]; exact g1), k2, k1, (hT.sub k3).put _ (VR.rw n s.sz v' dG ?_), .inl rfl⟩
      rcases g2.2 with ⟨rfl, _⟩ | ⟨g, c', cur, rfl, _⟩
      ·exact ⟨_, _, _, rfl⟩
      ·exact ⟨_, _, _, rfl⟩
     ·cases h
    ·cases h
   ·cases h
  ·cases h
 ·rename_i n z l
  split at h
  ·rename_i E' s' xs hrow
   split at h
   ·rename_i hz0
    subst hz0
    split at h
    ·rename_i hE
     subst hE
     split at h
     ·rename_i hs' hq
      cases hs'
      split at h
      ·rename_i hcnd
       simp only [ai, aj] at hcnd
       cases hvx with | sl _ _ _ sz A A' len cap cap' hi hl h0' h1' hc' =>
       obtain ⟨rfl, rfl⟩ := h0' rfl
       obtain ⟨v0, cs, m1, m2, m3⟩ := hH.row n E' s xs hrow
       rw [hi] at m1
       simp only [aa, Ent.row.injEq] at m1
       obtain ⟨rfl, rfl⟩ := m1
       obtain ⟨_, rfl, _, _⟩ := jq hH hrow hi
       have hl' : l ≤ xs.length := by omega
       have hlen : (xs.take l).length = l := by simp; omega
       have hown : w.ownsRow 0 E' s.sz (.slice A' l cap') (xs.take l).length (cs.take (l * s.sz)) := by
        rw [hlen]
        rcases m2.2 with ⟨e, e0⟩ | ⟨g, c', cur, e, _⟩
        ·simp only [Value.slice.injEq] at e
         obtain ⟨rfl, _, rfl⟩ := e
         have : l = 0 := by omega
         subst this
         exact ⟨by simp, .inl ⟨rfl, rfl⟩⟩
        ·simp only [Value.slice.injEq] at e
         obtain ⟨rfl, _, rfl⟩ := e
         exact rP m2 hl'
       obtain ⟨v', w', cs', g1, g2, g3, g4, g5⟩ := qu (P := P) (t := t) (ty := o.type) hH hz hu hown (wP m3 hl') hvy hy hcnd.1 hcnd.2
       have e0 : ∀ (A : Option Addr) (n m c c' : Nat), (Value.slice A n c).ownBlock = (Value.slice A m c').ownBlock := by
        intro A n m c c'
        cases A <;> rfl
       obtain ⟨k1, k2, k3⟩ := Kk (v' := v') hH hi (by rw [e0 A' xs.length l cap' cap']; exact g3) (by rw [e0 A' xs.length l cap' cap']; exact g4) g2 g5
       refine ⟨_, _, h, _, w', _, v', oX ho hc hx ht (by rw [hax]; exact g1), k2, k1, (hT.sub k3).put _ (VR.rw n s.sz v' dG ?_), .inl rfl⟩
       rcases g2.2 with ⟨rfl, _⟩ | ⟨g, c', cur, rfl, _⟩
       ·exact ⟨_, _, _, rfl⟩
       ·exact ⟨_, _, _, rfl⟩
      ·cases h
     ·cases h
    ·cases h
   ·cases h
  ·cases h
 ·cases h
theorem AV {d : Nat} {o : Oper} {k : K α} {r : α} (hT : TR I w T a) (hH : HR I w H) (h : kO P d o T H k = some r) : ∃ T' H', k T' H' = some r ∧ Goes P o a I w T' H' := by
 have plain : ∀ {I : In} {T : List DV} {H : Heap}, TR I w T a → HR I w H → (eh P d o T H fun v a => k (dv T o.dst v) (H.act a)) = some r → ∃ T' H', k T' H' = some r ∧ Goes P o a I w T' H' := by
  intro I T H hT hH h
  obtain ⟨v, act, h1, h2⟩ := Fc hT hH h
  exact ⟨_, _, h1, h2.goes hT hH⟩
 unfold kO at h
 split at h
 ·rename_i t n ps ho
  split at h
  rename_i A' T' H' hs
  have hLR : LR I w (ps.toList.map fun e => dh T e.2) (ps.toList.map fun e => a.eval e.2) := by
   have := LR.map hT (ps.toList.map (·.2))
   simpa [List.map_map, Function.comp_def] using this
  obtain ⟨I1, g1, g2, g3, _⟩ := ja hH hT hLR hs
  obtain ⟨T2, H2, k1, k2⟩ := plain g3 g1 h
  exact ⟨T2, H2, k1, k2.ext g2⟩
 ·rename_i q x y ho
  split at h
  ·split at h
   rename_i A' T' H' hs
   have hLR : LR I w [dh T y] [a.eval y] := .cons _ _ _ _ (dm hT y) .nil
   obtain ⟨I1, g1, g2, g3, _⟩ := ja hH hT hLR hs
   obtain ⟨T2, H2, k1, k2⟩ := plain g3 g1 h
   exact ⟨T2, H2, k1, k2.ext g2⟩
  ·exact plain hT hH h
 ·rename_i c ho
  split at h
  ·rename_i hc
   split at h
   ·rename_i x y t t' hx ht
    split at h
    ·rename_i htt
     subst htt
     split at h
     ·rename_i e hu
      split at h
      ·rename_i s hsh
       split at h
       ·rename_i hz
        split at h
        ·rename_i ys hy
         exact D1 hT hH ho hc hx ht hu hz hy h
        ·cases h
       ·cases h
      ·cases h
     ·cases h
    ·cases h
   ·cases h
  ·exact plain hT hH h
 ·exact plain hT hH h
end
section
variable {P : Program} {I I' : In} {w w' : World} {T : List DV} {a : Act} {H : Heap} {α : Type}
def Hk (u : Option (List Nat)) (I I' : In) : Prop := ∀ l, u = some l → ∀ n sz v, n ∉ l → I.ι n = some (.row sz v) → I'.ι n = some (.row sz v)
def rQ (R : Value → World → Prop) : Ending → World → Prop
 | .returned z, w => R z w
 | _, _ => False
def wQ (P : Program) (f : FuncId) : Prop := ∀ (args : Array Value) (w : World), (callFunc f args).run P w = .ok (.enter f args) w
theorem kx {f : FuncId} (h : gm P f = true) : wQ P f := by
 intro args w
 unfold gm at h
 split at h
 ·rename_i fn hf
  simp only [ai, aw, ne_eq] at h
  have h1 : (fn.name == "runtime.NumGoroutine") = false := by simp [h.1]
  have h2 : fn.body.isNone = false := by
   cases hb : fn.body with
   | none => rw [hb] at h; simp at h
   | some c => rfl
  have h3 : fn.body ≠ none := by
   intro e
   rw [e] at h
   simp at h
  simp [callFunc, hf, h.1, h3]
 ·cases h
def qv (P : Program) (call : gN α) : Prop := ∀ {I : In} {w : World} {H : Heap} {A : List DV} {args : List Value} {f : FuncId} {k : DV → Heap → Option (List Nat) → Option α} {r : α}, HR I w H → LR I w A args → call f A H k = some r →
 wQ P f ∧ Calls P f args.toArray w (rQ fun z w' => ∃ I' v H' u, k v H' u = some r ∧ Ext I w I' w' ∧ HR I' w' H' ∧ VR I' w' v z ∧ Hk u I I')
def In.drop (I : In) (n : Nat) : In := ⟨fun m => if m = n then (match I.ι m with | some (.row _ _) => none | x => x) else I.ι m, I.R⟩
theorem In.drop_but (I : In) (n : Nat) (w : World) : But n .none I (I.drop n) w w := by
 refine ⟨⟨fun _ h => h, fun _ _ => rfl⟩, fun m b h => ?_, fun m sz v hm h => ?_, fun s xs h => by cases h⟩
 ·show (if m = n then _ else _) = _
  split
  ·rw [h]
  ·exact h
 ·show (if m = n then _ else _) = _
  rw [if_neg hm]
  exact h
theorem AW : ∀ {l : List Nat} {I : In} {T : List DV}, TR I w T a → Keeps I.R I'.R w w' → (∀ n b, I.ι n = some (.obj b) → I'.ι n = some (.obj b)) → (∀ n sz v, n ∉ l → I.ι n = some (.row sz v) → I'.ι n = some (.row sz v)) → TR I' w' (dL l T) a
 | [], I, T, hT, hk, ho, hr => hT.keep ⟨hk, ho, fun n sz v h => hr n sz v (by simp) h⟩
 | n :: l, I, T, hT, hk, ho, hr => by
  show TR I' w' (dL l (d6 n .none T)) a
  refine AW (l := l) (I := I.drop n) (hT.sub (I.drop_but n w)) hk (fun m b h => ?_) (fun m sz v hm h => ?_)
  ·refine ho m b ?_
   by_cases hmn : m = n
   ·simp only [In.drop, hmn, if_true] at h ⊢
    split at h
    ·cases h
    ·exact h
   ·simpa only [In.drop, hmn, au] using h
  ·by_cases hmn : m = n
   ·simp only [In.drop, hmn, if_true] at h
    split at h
    ·cases h
    ·rename_i h2
     exact (h2 _ _ h).elim
   ·simp only [In.drop, hmn, au] at h
    exact hr m sz v (by simp [hmn, hm]) h
theorem AX {u : Option (List Nat)} (hT : TR I w T a) (hH : HR I w H) (he : Ext I w I' w') (hk : Hk u I I') : TR I' w' (jU T u) a := by
 cases u with
 | none => exact hT.bare (he.toObj hH)
 | some l => exact AW hT (he.keeps hH) he.obj (hk l rfl)
theorem wR {g : Nat} {v : DV} (h : T.getD g .undef = v) (hv : v ≠ .undef) : T.set g v = T := by
 apply cy
 intro i
 rw [bB]
 split
 ·rename_i e
  subst e
  split
  ·rename_i hl
   rw [← h, av, aF hl]
   rfl
  ·rename_i hl
   rw [av, bQ (by omega)] at h
   exact absurd h.symm hv
 ·rfl
theorem oY {ops : Array Oper} {j : Nat} {g : Tmp} {b : Bool} (hT : TR I w T a) (hj : (ops[j]?).bind (·.dst) = some g) (h : T.getD g .undef = .sc (.bool b)) : yielded ops a.tmps j = some b := by
 have := hT.val g
 rw [h] at this
 have h1 := this.sc_eq
 unfold yielded
 rw [hj]
 simp only [ab]
 rw [bP] at h1
 cases hg : a.tmps[g]? with
 | none => rw [hg] at h1; cases h1
 | some x =>
  rw [hg] at h1
  simp only [cq] at h1
  subst h1
  rfl
theorem oZ {ops : Array Oper} {j : Nat} {g : Tmp} (hT : TR I w T a) (hj : (ops[j]?).bind (·.dst) = some g) (h : T.getD g .undef = .tup []) : yielded ops a.tmps j = none := by
 have := hT.val g
 rw [h] at this
 unfold yielded
 rw [hj]
 simp only [ab]
 generalize hx : a.tmps.getD g undef = x at this
 cases this with
 | tup _ vs hl =>
  rw [bP] at hx
  cases hg : a.tmps[g]? with
  | none => rfl
  | some y =>
   rw [hg] at hx
   simp only [cq] at hx
   subst hx
   rfl
theorem lK (hT : TR I w T a) (d : Option Tmp) : TR I w (dv T d (.tup [])) (a.put d undef) := hT.put d (.tup [] #[] .nil)
theorem Goes.wp {o : Oper} {T' : List DV} {H' : Heap} {K : Act → World → Prop} {Q : Exit → Act → World → Prop} (h : Goes P o a I w T' H') (hk : ∀ I' w' u, Ext I w I' w' → HR I' w' H' → TR I' w' T' (a.put o.dst u) → K (a.put o.dst u) w') : o.wp P a w K Q := by
 obtain ⟨I', w', n, u, h1, h2, h3, h4, h5⟩ := h
 unfold Oper.wp
 rw [h1]
 rcases h5 with rfl | ⟨rfl, rfl⟩
 ·exact hk I' w' u h2 h3 h4
 ·exact hk I' w' undef h2 h3 h4
theorem iA {f : Operand} {g : FuncId} {x y : List DV} {c : Call} (hT : TR I w T a) (h : dh T f = .fn (.func g) x y) : ∃ x' y', a.eval f = .func (.func g) x' y' ∧ LR I w (x ++ c.args.toList.map (dh T) ++ y) (x' ++ c.args.map a.eval ++ y').toList := by
 have hf := dm hT f
 rw [h] at hf
 obtain ⟨x', y', e, h1, h2⟩ := hf.fn_case
 refine ⟨x', y', e, ?_⟩
 have app : ∀ {l m : List DV} {l' m' : List Value}, LR I w l l' → LR I w m m' → LR I w (l ++ m) (l' ++ m') := by
  intro l m l' m' hl hm
  induction l generalizing l' with
  | nil => cases hl with | nil => exact hm
  | cons d r ih => cases hl with | cons _ _ u vs hd hr => exact .cons _ _ _ _ hd (ih hr)
 simp only [Array.toList_append]
 exact app (app h1 (kh hT c.args)) h2
theorem jb {o : Oper} {c : Call} {f : Operand} {g : FuncId} {x' y' : Array Value} (ho : o.op = .call c) (hc : c.callee = .value f) (hf : a.eval f = .func (.func g) x' y') (he : wQ P g) : (execOp a.eval o).run P w = .ok (.enter g (x' ++ c.args.map a.eval ++ y')) w := by
 unfold execOp
 rw [ho]
 simp only [resolve, hc, hf, Deferred.ofValue]
 exact he _ _
end
section
variable {P : Program} {α : Type}
theorem AY {call : gN α} (hcall : qv P call) {I : In} {w : World} {T : List DV} {a : Act} {H : Heap} {o : Oper} {c : Call} {f : Operand} {g : FuncId} {x y : List DV} {sp : Bool} {k : K α} {r : α} {K : Act → World → Prop} {Q : Exit → Act → World → Prop} (hT : TR I w T a) (hH : HR I w H)
  (ho : o.op = .call c) (hc : c.callee = .value f) (hf : dh T f = .fn (.func g) x y)
  (h : (match (if sp = true then (x ++ c.args.toList.map (dh T) ++ y, T, H) else jF (x ++ c.args.toList.map (dh T) ++ y) T H) with
   | (A, T, H) => call g A H fun v H u => k (dv (jU T u) o.dst v) H) = some r)
  (hk : ∀ I' w' T' H' u, Ext I w I' w' → HR I' w' H' → TR I' w' T' (a.put o.dst u) → k T' H' = some r → K (a.put o.dst u) w') : o.wp P a w K Q := by
 obtain ⟨x', y', e1, e2⟩ := iA (c := c) hT hf
 split at h
 rename_i A1 T1 H1 hs
 obtain ⟨I1, g1, g2, g3, g4⟩ : ∃ I1, HR I1 w H1 ∧ Ext I w I1 w ∧ TR I1 w T1 a ∧ LR I1 w A1 (x' ++ c.args.map a.eval ++ y').toList := by
  split at hs
  ·simp only [ah] at hs
   obtain ⟨rfl, rfl, rfl⟩ := hs
   exact ⟨I, hH, Ext.refl I w, hT, e2⟩
  ·exact ja hH hT e2 hs
 obtain ⟨k1, k2⟩ := hcall g1 g4 h
 unfold Oper.wp
 rw [jb ho hc e1 k1, Oper.upon_enter]
 refine Calls.mono k2 ?_
 rintro e w' he
 cases e with
 | returned z =>
  obtain ⟨I', v, H', u, m1, m2, m3, m4, m5⟩ := he
  exact hk I' w' _ H' z (g2.trans m2) m3 ((AX g3 g1 m2 m5).put _ m4) m1
 | _ => exact he.elim
theorem AZ {cx : Cx} {call : gN α} (hcall : qv cx.P call) {d : Nat} {ops : Array Oper} {k : K α} {r : α} {Q : Exit → Act → World → Prop} : ∀ {l : List Oper} {I : In} {w : World} {T : List DV} {a : Act} {H : Heap}, TR I w T a → HR I w H → fe cx call d ops l T H k = some r →
  (∀ I' w' T' H' a', Ext I w I' w' → HR I' w' H' → TR I' w' T' a' → k T' H' = some r → Q .normal a' w') → wpList cx.P ops Q l a w
 | [], I, w, T, a, H, hT, hH, h, hQ => hQ I w T H a (Ext.refl I w) hH hT h
 | o :: l, I, w, T, a, H, hT, hH, h, hQ => by
  have next : ∀ {I' : In} {w' : World} {T' : List DV} {H' : Heap} {a' : Act}, Ext I w I' w' → HR I' w' H' → TR I' w' T' a' → fe cx call d ops l T' H' k = some r → wpList cx.P ops Q l a' w' := fun he hH' hT' h' =>
   AZ hcall hT' hH' h' fun I2 w2 T2 H2 a2 he2 hH2 hT2 h2 => hQ I2 w2 T2 H2 a2 (he.trans he2) hH2 hT2 h2
  have hrun : ∀ {R : Option α}, (match o.op with
   | .call c => match c.callee with
    | .value f => match dh T f with
     | .fn (.func g) a b => match (if nB g = true then (a ++ c.args.toList.map (dh T) ++ b, T, H) else jF (a ++ c.args.toList.map (dh T) ++ b) T H) with
      | (A, T, H) => call g A H fun v H u => fe cx call d ops l (dv (jU T u) o.dst v) H k
     | _ => none
    | _ => kO cx.P d o T H fun T H => fe cx call d ops l T H k
   | _ => kO cx.P d o T H fun T H => fe cx call d ops l T H k) = some r → o.wp cx.P a w (wpList cx.P ops Q l) Q := by
   intro R h
   have plain : (kO cx.P d o T H fun T H => fe cx call d ops l T H k) = some r → o.wp cx.P a w (wpList cx.P ops Q l) Q := by
    intro h
    obtain ⟨T', H', h1, h2⟩ := AV hT hH h
    exact h2.wp fun I' w' u he hH' hT' => next he hH' hT' h1
   split at h
   ·rename_i c ho
    split at h
    ·rename_i f hc
     split at h
     ·rename_i g x y hf
      exact AY hcall (sp := nB g) (k := fun T H => fe cx call d ops l T H k) hT hH ho hc hf h fun I' w' T' H' u he hH' hT' h' => next he hH' hT' h'
     ·cases h
    ·exact plain h
   ·exact plain h
  unfold fe at h
  simp only [yK, E0] at h
  try simp only at h
  unfold wpList
  split at h
  ·rename_i hg
   rw [if_pos (by simp [Region.wanted, hg])]
   exact .inl (hrun (R := some r) h)
  ·rename_i j want hg
   split at h
   ·rename_i g hj
    split at h
    ·rename_i b hb
     have hy := oY hT hj hb
     have hfix : T.set g (.sc (.bool b)) = T := wR hb (by simp)
     cases b with
     | true =>
      rw [hfix] at h
      cases want with
      | true =>
       rw [if_pos (by simp [Region.wanted, hg, hy])]
       exact .inl (hrun (R := some r) h)
      | false =>
       rw [if_neg (by simp [Region.wanted, hg, hy])]
       exact next (Ext.refl I w) hH (lK hT o.dst) h
     | false =>
      rw [hfix] at h
      cases want with
      | true =>
       rw [if_neg (by simp [Region.wanted, hg, hy])]
       exact next (Ext.refl I w) hH (lK hT o.dst) h
      | false =>
       rw [if_pos (by simp [Region.wanted, hg, hy])]
       exact .inl (hrun (R := some r) h)
    ·rename_i hb
     have hy := oZ hT hj hb
     rw [if_neg (by simp [Region.wanted, hg, hy])]
     exact next (Ext.refl I w) hH (lK hT o.dst) h
    ·cases h
   ·cases h
end
section
variable {P : Program} {α : Type}
theorem yW {c x y : DV} {k : DV → Option α} : oo c x y k = (oo c x y some).bind k := by
 unfold oo
 repeat' split
 all_goals first | rfl | simp
theorem A2 {op : BinOp} {t : TypeId} {x y : DV} {k : DV → Option α} : x0 P op t x y k = (x0 P op t x y some).bind k := by
 unfold x0
 repeat' split
 all_goals first | rfl | simp
theorem rR {t : TypeId} {H : Heap} {x : DV} {i : Int} {k : DV → Option α} : iD P t H x i k = (iD P t H x i some).bind k := by
 unfold iD
 repeat' split
 all_goals first | rfl | simp
theorem wS {t : TypeId} {x : DV} {i : Int} {k : DV → Option α} : pl P t x i k = (pl P t x i some).bind k := by
 unfold pl
 repeat' split
 all_goals first | rfl | simp
theorem nh {x : DV} {n : Nat} {β : Type} {k : Nat → Option β} : kL x n k = (kL x n some).bind k := by
 unfold kL
 repeat' split
 all_goals first | rfl | simp
theorem A3 {lo : Option DV} {k : Nat → Nat → Option α} {h : Nat} : rG lo k h = (rG lo (fun a b => some (a, b)) h).bind fun e => k e.1 e.2 := by
 unfold rG
 split
 ·rw [nh, nh (k := fun l => some (l, h))]
  cases kL _ h some <;> rfl
 ·rfl
theorem uL {lo hi : Option DV} {n : Nat} {k : Nat → Nat → Option α} : gI n lo hi k = (gI n lo hi (fun a b => some (a, b))).bind fun e => k e.1 e.2 := by
 unfold gI
 split
 ·rw [nh, nh (k := rG lo _)]
  cases kL _ n some with
  | none => rfl
  | some x => exact A3
 ·exact A3
theorem wT {t : TypeId} {H : Heap} {x : DV} {lo hi mx : Option DV} {k : DV → Option α} : kM P t H x lo hi mx k = (kM P t H x lo hi mx some).bind k := by
 have B : ∀ {n : Nat} {f : Nat → Nat → DV}, (gI n lo hi fun l h => k (f l h)) = (gI n lo hi fun l h => some (f l h)).bind k := by
  intro n f
  rw [uL, uL (k := fun l h => some (f l h))]
  cases gI n lo hi _ <;> rfl
 unfold kM
 repeat' split
 all_goals first | rfl | exact B | simp
theorem gO {d : Nat} {o : Oper} {H : Heap} {b : Blk} {v : Nat → DV} {k : DV → fD → Option α} : f6 d o H b v k = (f6 d o H b v fun v a => some (v, a)).bind fun e => k e.1 e.2 := by
 unfold f6
 simp only
 split <;> rfl
theorem yX {z : DV} {n : Int} {g : DV → Bool → DV} {k : DV → fD → Option α} : ∀ {ks : List (List Int)} {vs : List DV}, (vd ks vs z n fun u b => k (g u b) none) = (vd ks vs z n fun u b => some (g u b, (none : fD))).bind fun e => k e.1 e.2
 | [], vs => by cases vs <;> rfl
 | l :: ks, [] => rfl
 | l :: ks, v :: vs => by
  simp only [vd]
  split
  ·rfl
  ·exact yX
theorem nC {d : Nat} {o : Oper} {T : List DV} {H : Heap} {k : DV → fD → Option α} : eh P d o T H k = (eh P d o T H fun v a => some (v, a)).bind fun e => k e.1 e.2 := by
 have bd : ∀ {x : Option DV} {k : DV → fD → Option α}, x.bind (fun v => k v none) = (x.bind fun v => some (v, (none : fD))).bind fun e => k e.1 e.2 := by
  intro x k
  cases x <;> rfl
 unfold eh
 simp only
 split
 all_goals try first | rfl | exact gO
 ·rw [yW, yW (k := fun x => some (x, none))]; exact bd
 ·split
  ·exact gO
  ·rfl
 ·split
  ·split
   ·exact gO
   ·rfl
  ·rfl
 ·split
  ·split <;> rfl
  ·rfl
 ·repeat' split
  all_goals first | rfl | exact gO
 ·split <;> rfl
 ·split <;> rfl
 ·split <;> rfl
 ·rw [A2, A2 (k := fun x => some (x, none))]; exact bd
 ·split <;> rfl
 ·repeat' split
  all_goals rfl
 ·repeat' split
  all_goals first | rfl | exact gO
 ·rw [wT, wT (k := fun x => some (x, none))]; exact bd
 ·split <;> rfl
 ·split <;> rfl
 ·split
  ·rw [rR, rR (k := fun x => some (x, none))]; exact bd
  ·rfl
 ·split
  ·rw [wS, wS (k := fun x => some (x, none))]; exact bd
  ·rfl
 ·split
  ·exact gO
  ·rfl
 ·split
  ·split
   ·split <;> rfl
   ·rfl
  ·rfl
 ·split
  ·split
   ·split
    ·exact yX (g := fun u b => if _ = true then .tup [u, .sc (.bool b)] else u)
    ·rfl
   ·rfl
  ·rfl
 ·split
  ·split <;> rfl
  ·rfl
 ·split
  ·repeat' split
   all_goals rfl
  ·repeat' split
   all_goals rfl
  ·repeat' split
   all_goals rfl
  ·rfl
end
section
variable {P : Program} {α : Type} {H H' : Heap}
theorem D2 {T : List DV} {o : Oper} {x : Operand} {n : Nat} (ho : rH o = true) (hx : x ∈ o.op.operands.toList) (hn : n ∈ ig (dh T x)) : n ∈ fj T o := by
 unfold fj
 rw [if_pos ho]
 exact List.mem_flatMap.2 ⟨x, hx, hn⟩
theorem Fe {t : TypeId} {x : DV} (h : ∀ n ∈ ig x, H n = H' n) : jT P t H x = jT P t H' x := by
 cases x <;> simp only [jT] <;> rw [h _ (by simp [ig])]
theorem D3 {t : TypeId} {x v : DV} (h : ∀ n ∈ ig x, H n = H' n) : po P t H x v = po P t H' x v := by
 unfold po
 cases x <;> simp only <;> rw [h _ (by simp [ig])]
theorem A4 {t : TypeId} {x : DV} {i : Int} {k : DV → Option α} (h : ∀ n ∈ ig x, H n = H' n) : iD P t H x i k = iD P t H' x i k := by
 unfold iD
 cases x <;> simp only <;> rw [h _ (by simp [ig])]
theorem D4 {t : TypeId} {x : DV} {lo hi mx : Option DV} {k : DV → Option α} (h : ∀ n ∈ ig x, H n = H' n) : kM P t H x lo hi mx k = kM P t H' x lo hi mx k := by
 cases mx with
 | some _ => rfl
 | none =>
  unfold kM
  cases x <;> first | (simp only; rw [h _ (by simp [ig])]; done) | (generalize P.underlying t = u; cases u with | none => rfl | some ty => (cases ty <;> first | rfl | (simp only; rw [h _ (by simp [ig])]; done) | (rename_i v _; cases v <;> first | rfl | (rename_i A _ _; cases A <;> rfl)) | (rename_i v; cases v <;> first | rfl | (rename_i A _ _; cases A <;> rfl)) | (rename_i v _ _; cases v <;> first | rfl | (rename_i A _ _; cases A <;> rfl))))
theorem Hl {t : TypeId} {x : DV} (h : ∀ n ∈ ig x, H n = H' n) : xZ P t H x = xZ P t H' x := by
 unfold xZ
 cases x <;> first | (simp only; rw [h _ (by simp [ig])]; done) | (generalize P.underlying t = u; cases u with | none => rfl | some ty => (cases ty <;> first | rfl | (simp only; rw [h _ (by simp [ig])]; done) | (rename_i v _; cases v <;> first | rfl | (rename_i A _ _; cases A <;> rfl)) | (rename_i v; cases v <;> first | rfl | (rename_i A _ _; cases A <;> rfl)) | (rename_i v _ _; cases v <;> first | rfl | (rename_i A _ _; cases A <;> rfl))))
theorem yY : ∀ {m b : Nat}, (∀ n, b ≤ n → n ≤ b + m → H n = H' n) → kJ H m b = kJ H' m b ∧ b ≤ kJ H m b ∧ kJ H m b ≤ b + m
 | 0, b, h => ⟨rfl, ak _, ak _⟩
 | m + 1, b, h => by
  have h0 := h b (ak _) (by omega)
  obtain ⟨g1, g2, g3⟩ := yY (m := m) (b := b + 1) (fun n h1 h2 => h n (by omega) (by omega))
  simp only [kJ]
  rw [← h0]
  cases H b with
  | none => exact ⟨rfl, ak _, Nat.le_add_right _ _⟩
  | some _ => exact ⟨g1, aX (Nat.le_succ b) g2, aX g3 (by omega)⟩
theorem kR {d : Nat} {o : Oper} {b : Blk} {v : Nat → DV} {k : DV → fD → Option α} (h : ∀ n, base d o.dst ≤ n → n < base d o.dst + 64 → H n = H' n) : f6 d o H b v k = f6 d o H' b v k := by
 obtain ⟨g1, g2, g3⟩ := yY (m := 63) (b := base d o.dst) (fun n h1 h2 => h n h1 (by omega))
 unfold f6
 simp only
 rw [← g1, h _ g2 (by omega)]
theorem Ff {s : Sh} {y : DV} (h : ∀ n ∈ ig y, H n = H' n) : fc H s y = fc H' s y := by
 cases y
 case rw n => simp only [fc]; rw [h n (by simp [ig])]
 case sl n o l => simp only [fc]; rw [h n (by simp [ig])]
 case sc v =>
  cases v with
  | slice a n c => cases a <;> rfl
  | _ => rfl
 all_goals rfl
theorem JI {d : Nat} {o : Oper} {T T' : List DV} {k : DV → fD → Option α} (hT : ∀ x ∈ o.op.operands.toList, dh T x = dh T' x) (hR : ∀ n ∈ fj T o, H n = H' n) (hB : x9 o = true → ∀ n, base d o.dst ≤ n → n < base d o.dst + 64 → H n = H' n) : eh P d o T H k = eh P d o T' H' k := by
 have hN : rH o = true → ∀ x ∈ o.op.operands.toList, ∀ n ∈ ig (dh T' x), H n = H' n := fun ho x hx n hn => hR n (D2 ho hx (by rw [hT x hx]; exact hn))
 have pairs : ∀ ps : Array (Nat × Operand), (∀ x ∈ (ps.toList.map (·.2)), dh T x = dh T' x) → (ps.toList.map fun e => (e.1, dh T e.2)) = ps.toList.map fun e => (e.1, dh T' e.2) := fun ps hp => bu fun p hm => by rw [hp p.2 (bn hm)]
 have pairs2 : ∀ ps : Array (Nat × Operand), (∀ x ∈ (ps.toList.map (·.2)), dh T x = dh T' x) → (ps.toList.map fun e => dh T e.2) = ps.toList.map fun e => dh T' e.2 := fun ps hp => bu fun p hm => by rw [hp p.2 (bn hm)]
 obtain ⟨dst, op, type, pos, after, guard⟩ := o
 cases op
 case move x => simp only [eh]; rw [hT x (by simp [Op.operands])]
 case assign x => simp only [eh]; rw [hT x (by simp [Op.operands])]
 case pick c a b => simp only [eh]; rw [hT c (by simp [Op.operands]), hT a (by simp [Op.operands]), hT b (by simp [Op.operands])]
 case alloc e =>
  simp only [eh]
  split
  ·exact kR (hB rfl)
  ·rfl
 case box e x =>
  simp only [eh]
  rw [hT x (by simp [Op.operands])]
  repeat' split
  all_goals first | rfl | exact kR (hB rfl)
 case build t ps => simp only [eh]; rw [pairs ps fun x hx => hT x (by simpa [Op.operands] using hx)]
 case buildSlice t n ps =>
  simp only [eh]
  rw [pairs2 ps fun x hx => hT x (by simpa [Op.operands] using hx)]
  repeat' split
  all_goals first | rfl | exact kR (hB rfl)
 case load t x => simp only [eh]; rw [hT x (by simp [Op.operands]), Fe (hN rfl x (by simp [Op.operands]))]
 case store t x v => simp only [eh]; rw [hT x (by simp [Op.operands]), hT v (by simp [Op.operands]), D3 (hN rfl x (by simp [Op.operands]))]
 case nilCheck x => simp only [eh]; rw [hT x (by simp [Op.operands])]
 case binOp q t x y z => simp only [eh]; rw [hT x (by simp [Op.operands]), hT y (by simp [Op.operands])]
 case unOp q t x => simp only [eh]; rw [hT x (by simp [Op.operands])]
 case convert q t x =>
  simp only [eh]
  rw [hT x (by simp [Op.operands])]
  have he : fc H (.int .u8) (dh T' x) = fc H' (.int .u8) (dh T' x) := Ff (hN rfl x (by simp [Op.operands]))
  generalize dh T' x = y at he
  split
  ·rfl
  ·rfl
  ·rw [he]
  ·rfl
  ·rfl
 case makeFunc F a b =>
  simp only [eh]
  rw [bu (l := a.toList) fun x hx => hT x (by simp only [Op.operands, Array.toList_append, az]; exact .inl hx), bu (l := b.toList) fun x hx => hT x (by simp only [Op.operands, Array.toList_append, az]; exact .inr hx)]
 case makeSlice t l c =>
  simp only [eh]
  rw [hT l (by simp [Op.operands]), hT c (by simp [Op.operands])]
  repeat' split
  all_goals first | rfl | exact kR (hB rfl)
 case slice t x lo hi mx =>
  simp only [eh]
  have m : ∀ y : Option Operand, (∀ z, y = some z → dh T z = dh T' z) → y.map (dh T) = y.map (dh T') := fun y hy => by
   cases y with
   | none => rfl
   | some z => simp [hy z rfl]
  rw [hT x (by simp [Op.operands]), m lo fun z hz => hT z (by simp [Op.operands, hz]), m hi fun z hz => hT z (by simp [Op.operands, hz]), m mx fun z hz => hT z (by simp [Op.operands, hz]), D4 (hN rfl x (by simp [Op.operands]))]
 case fieldAddr t x f => simp only [eh]; rw [hT x (by simp [Op.operands])]
 case field t x f => simp only [eh]; rw [hT x (by simp [Op.operands])]
 case indexAddr t x i =>
  simp only [eh]
  rw [hT x (by simp [Op.operands]), hT i (by simp [Op.operands])]
  split
  ·exact A4 (hN rfl x (by simp [Op.operands]))
  ·rfl
 case index t x i => simp only [eh]; rw [hT x (by simp [Op.operands]), hT i (by simp [Op.operands])]
 case makeMap t r =>
  cases r with
  | none =>
   simp only [eh]
   split
   ·exact kR (hB rfl)
   ·rfl
  | some r => rfl
 case insert t m i x =>
  simp only [eh]
  rw [hT m (by simp [Op.operands]), hT i (by simp [Op.operands]), hT x (by simp [Op.operands])]
  split
  ·rename_i hm _
   rw [hN rfl m (by simp [Op.operands]) _ (by rw [hm]; simp [ig])]
  ·rfl
 case lookup t x i c =>
  simp only [eh]
  have : kN H (dh T' x) = kN H' (dh T' x) := by
   have hx := hN rfl x (by simp [Op.operands])
   unfold kN
   cases hd : dh T' x <;> simp only
   rw [hx _ (by rw [hd]; simp [ig])]
  rw [hT x (by simp [Op.operands]), hT i (by simp [Op.operands]), this]
 case extract x i => simp only [eh]; rw [hT x (by simp [Op.operands])]
 case call c =>
  have hA : c.args.toList.map (dh T) = c.args.toList.map (dh T') := bu fun x hx => hT x (by simp [Op.operands, Call.operands, Array.mem_toList_iff.1 hx])
  simp only [eh]
  rw [hA]
  split
  ·split
   ·rename_i x t hx ht
    have hm : x ∈ (Op.call c).operands.toList := by
     have : x ∈ c.args.toList := by rw [hx]; simp
     simp [Op.operands, Call.operands, Array.mem_toList_iff.1 this]
    rw [hT x hm, Hl (hN rfl x hm)]
   ·rfl
  ·rfl
  ·rfl
  ·rfl
 all_goals rfl
end
abbrev St := List DV × Heap
def eV (u : List Nat) (n : Nat) (b : Option Blk) : Option Blk := u.foldl (fun b m => if n = m then none else match b with | some b => some (b.sub m .none) | none => none) b
theorem jc : ∀ (u : List Nat) (H : Heap) (n : Nat), (dw u H) n = eV u n (H n)
 | [], H, n => rfl
 | m :: u, H, n => by
  show (dw u (H.sub m .none)) n = eV u n _
  rw [jc u]
  rfl
theorem o6 : ∀ (u : List Nat) (n : Nat), eV u n none = none
 | [], n => rfl
 | m :: u, n => by
  show eV u n (if n = m then none else none) = none
  rw [ite_self]
  exact o6 u n
mutual
theorem DV.sub_clean {m : Nat} {g : Sub} : ∀ (d : DV), m ∉ d.rows → d.sub m g = d
 | .rp n sz i p, h => by
  have : n ≠ m := fun e => h (by simp [DV.rows, e])
  simp [DV.sub, this]
 | .rw n, h => by
  have : n ≠ m := fun e => h (by simp [DV.rows, e])
  simp [DV.sub, this]
 | .sl n o l, h => by
  have : n ≠ m := fun e => h (by simp [DV.rows, e])
  simp [DV.sub, this]
 | .fn F a b, h => by
  simp only [DV.rows, az, not_or] at h
  simp only [DV.sub]
  rw [gP a h.1, gP b h.2]
 | .agg cs, h => by
  simp only [DV.rows] at h
  simp only [DV.sub]
  rw [gP cs h]
 | .tup cs, h => by
  simp only [DV.rows] at h
  simp only [DV.sub]
  rw [gP cs h]
 | .tab ks vs, h => by
  simp only [DV.rows] at h
  simp only [DV.sub]
  rw [gP vs h]
 | .undef, h => rfl
 | .sc v, h => rfl
 | .ptr n o p, h => rfl
 | .pi its, h => rfl
 | .vs s xs, h => rfl
 | .arr s n xs, h => rfl
 | .mh n, h => rfl
theorem gP {m : Nat} {g : Sub} : ∀ (l : List DV), m ∉ l5 l → d6 m g l = l
 | [], h => rfl
 | d :: r, h => by
  simp only [l5, az, not_or] at h
  simp only [d6]
  rw [DV.sub_clean d h.1, gP r h.2]
end
theorem Blk.sub_clean {m : Nat} {g : Sub} {b : Blk} (h : m ∉ l6 (some b)) : b.sub m g = b := by
 cases b with
 | obj cs => simp only [Blk.sub]; rw [gP cs h]
 | mp ks vs => simp only [Blk.sub]; rw [gP vs h]
 | row E s xs => rfl
theorem disjB_iff {u h : List Nat} : fE u h = true ↔ ∀ n ∈ u, n ∉ h := by
 unfold fE
 simp
theorem uM (m : Nat) (u : List Nat) (n : Nat) (b : Option Blk) : eV (m :: u) n b = eV u n (if n = m then none else match b with | some b => some (b.sub m .none) | none => none) := rfl
theorem gv : ∀ {u : List Nat} {n : Nat} {b : Option Blk}, n ∉ u → fE u (l6 b) = true → eV u n b = b
 | [], n, b, h1, h2 => rfl
 | m :: u, n, b, h1, h2 => by
  rw [disjB_iff] at h2
  simp only [aC, not_or] at h1
  rw [uM, if_neg h1.1]
  cases b with
  | none => exact o6 u n
  | some b =>
   simp only
   rw [Blk.sub_clean (h2 m (aM ..))]
   exact gv h1.2 (disjB_iff.2 fun k hk => h2 k (aB _ hk))
mutual
theorem DV.sub_comm (m k : Nat) : ∀ (d : DV), (d.sub m .none).sub k .none = (d.sub k .none).sub m .none
 | .rp n sz i p => by
  by_cases h1 : n = m <;> by_cases h2 : n = k <;> simp [DV.sub, h1, h2] <;> (try split) <;> simp_all [DV.sub]
 | .rw n => by
  by_cases h1 : n = m <;> by_cases h2 : n = k <;> simp [DV.sub, h1, h2, Sub.whole] <;> (try split) <;> simp_all [DV.sub, Sub.whole]
 | .sl n o l => by
  by_cases h1 : n = m <;> by_cases h2 : n = k <;> simp [DV.sub, h1, h2, Sub.part] <;> (try split) <;> simp_all [DV.sub, Sub.part]
 | .fn F a b => by simp only [DV.sub]; rw [gQ m k a, gQ m k b]
 | .agg cs => by simp only [DV.sub]; rw [gQ m k cs]
 | .tup cs => by simp only [DV.sub]; rw [gQ m k cs]
 | .tab ks vs => by simp only [DV.sub]; rw [gQ m k vs]
 | .undef => rfl
 | .sc v => rfl
 | .ptr n o p => rfl
 | .pi its => rfl
 | .vs s xs => rfl
 | .arr s n xs => rfl
 | .mh n => rfl
theorem gQ (m k : Nat) : ∀ (l : List DV), d6 k .none (d6 m .none l) = d6 m .none (d6 k .none l)
 | [] => rfl
 | d :: r => by
  simp only [d6]
  rw [DV.sub_comm m k d, gQ m k r]
end
theorem Blk.sub_comm (m k : Nat) : ∀ (b : Blk), (b.sub m .none).sub k .none = (b.sub k .none).sub m .none
 | .obj cs => by simp only [Blk.sub]; rw [gQ]
 | .mp ks vs => by simp only [Blk.sub]; rw [gQ]
 | .row E s xs => rfl
def gA (n m : Nat) (b : Option Blk) : Option Blk := if n = m then none else match b with | some b => some (b.sub m .none) | none => none
theorem kS (n m : Nat) : gA n m none = none := by unfold gA; split <;> rfl
theorem ni (n : Nat) (b : Option Blk) : gA n n b = none := by unfold gA; rw [if_pos rfl]
theorem qw {n m : Nat} (h : n ≠ m) (b : Blk) : gA n m (some b) = some (b.sub m .none) := by unfold gA; rw [if_neg h]
theorem D5 (n m k : Nat) (b : Option Blk) : gA n k (gA n m b) = gA n m (gA n k b) := by
 cases b with
 | none => rw [kS, kS, kS]
 | some b =>
  by_cases h1 : n = m
  ·subst h1
   rw [ni, kS, ni]
  ·by_cases h2 : n = k
   ·subst h2
    rw [ni, ni, kS]
   ·rw [qw h1, qw h2, qw h2, qw h1, Blk.sub_comm]
theorem rS (n m : Nat) : ∀ (u : List Nat) (b : Option Blk), eV u n (gA n m b) = gA n m (eV u n b)
 | [], b => rfl
 | k :: u, b => by
  show eV u n (gA n k (gA n m b)) = gA n m (eV u n (gA n k b))
  rw [D5, rS n m u]
theorem uN (n : Nat) : ∀ (u v : List Nat) (b : Option Blk), eV u n (eV v n b) = eV v n (eV u n b)
 | u, [], b => rfl
 | u, m :: v, b => by
  show eV u n (eV v n (gA n m b)) = eV v n (gA n m (eV u n b))
  rw [uN n u v, rS]
def qx (u : List Nat) (d : DV) : DV := u.foldl (fun d m => d.sub m .none) d
theorem wU (m : Nat) : ∀ (T : List DV) (t : Nat), (d6 m .none T).getD t .undef = (T.getD t .undef).sub m .none
 | [], t => rfl
 | d :: r, 0 => rfl
 | d :: r, t + 1 => by
  have := wU m r t
  simpa [d6] using this
theorem uO (m : Nat) : ∀ (T : List DV), (d6 m .none T).length = T.length
 | [] => rfl
 | d :: r => by simp [d6, uO m r]
theorem l7 : ∀ (u : List Nat) (T : List DV) (t : Nat), (dL u T).getD t .undef = qx u (T.getD t .undef)
 | [], T, t => rfl
 | m :: u, T, t => by
  show (dL u (d6 m .none T)).getD t .undef = qx u ((T.getD t .undef).sub m .none)
  rw [l7 u, wU]
theorem jX : ∀ (u : List Nat) (T : List DV), (dL u T).length = T.length
 | [], T => rfl
 | m :: u, T => by
  show (dL u (d6 m .none T)).length = _
  rw [jX u, uO]
theorem l8 : ∀ {u : List Nat} {d : DV}, fE u d.rows = true → qx u d = d
 | [], d, h => rfl
 | m :: u, d, h => by
  rw [disjB_iff] at h
  show qx u (d.sub m .none) = d
  rw [DV.sub_clean d (h m (aM ..))]
  exact l8 (disjB_iff.2 fun k hk => h k (aB _ hk))
theorem A5 (m : Nat) (v : DV) : ∀ (T : List DV) (d : Nat), d6 m .none (T.set d v) = (d6 m .none T).set d (v.sub m .none)
 | [], d => rfl
 | x :: r, 0 => rfl
 | x :: r, d + 1 => by simp [d6, A5 m v r d]
theorem wV : ∀ (u : List Nat) (T : List DV) (d : Nat) (v : DV), dL u (T.set d v) = (dL u T).set d (qx u v)
 | [], T, d, v => rfl
 | m :: u, T, d, v => by
  show dL u (d6 m .none (T.set d v)) = (dL u (d6 m .none T)).set d (qx u (v.sub m .none))
  rw [A5, wV u]
theorem wW {u : List Nat} {T : List DV} {d : Option Tmp} {v : DV} (h : fE u v.rows = true) : dL u (dv T d v) = dv (dL u T) d v := by
 cases d with
 | none => rfl
 | some d => simp only [dv]; rw [wV, l8 h]
theorem wX (m : Nat) : ∀ (u : List Nat) (T : List DV), dL u (d6 m .none T) = d6 m .none (dL u T)
 | [], T => rfl
 | k :: u, T => by
  show dL u (d6 k .none (d6 m .none T)) = d6 m .none (dL u (d6 k .none T))
  rw [gQ, wX m u]
theorem uP : ∀ (u v : List Nat) (T : List DV), dL u (dL v T) = dL v (dL u T)
 | u, [], T => rfl
 | u, m :: v, T => by
  show dL u (dL v (d6 m .none T)) = dL v (d6 m .none (dL u T))
  rw [uP u v, wX]
theorem yh (H : Heap) (a : fD) : H.act2 (Act2.of a) = H.act a := by
 funext n
 cases a with
 | none => rfl
 | some p =>
  obtain ⟨m, b⟩ := p
  unfold Heap.act2 Act2.of Heap.act Heap.set
  by_cases e : n = m
  ·simp [e]
  ·simp [e]
   rfl
structure Rec where
 o : Oper
 v : DV
 act : Act2
 r : List Nat
 h : List Nat
 T : List DV
 H : Heap
def Rec.did (e : Rec) : Did := ⟨e.o, e.r, e.act.W, e.act.u, e.h, e.T, e.H⟩
def Rec.eff (e : Rec) (s : St) : St := (dv (dL e.act.u s.1) e.o.dst e.v, s.2.act2 e.act)
def eZ : Nat → (Nat → Bool) → List Rec → St → St
 | _, _, [], s => s
 | m, S, e :: r, s => eZ (m + 1) S r (if S m then e.eff s else s)
def dr : List Rec → St → St
 | [], s => s
 | e :: r, s => dr r (e.eff s)
def Agr (L : List Tmp) (N : Nat → Prop) (s s' : St) : Prop := s.1.length = s'.1.length ∧ (∀ t ∈ L, s.1.getD t .undef = s'.1.getD t .undef) ∧ ∀ n, N n → s.2 n = s'.2 n
def wY (e : Rec) (L : List Tmp) (N : Nat → Prop) (s : St) : Prop := (∀ d, e.o.dst = some d → d ∉ L) ∧ (∀ n ∈ e.act.W, ¬ N n) ∧ (∀ n, N n → eV e.act.u n (s.2 n) = s.2 n) ∧ ∀ t ∈ L, qx e.act.u (s.1.getD t .undef) = s.1.getD t .undef
section
variable {L : List Tmp} {N : Nat → Prop} {s s' : St} {e : Rec} {S S' : Nat → Bool}
theorem vj {T : List DV} {d : Option Tmp} {v : DV} {t : Nat} (h : ∀ x, d = some x → x ≠ t) : (dv T d v).getD t .undef = T.getD t .undef := by
 cases d with
 | none => rfl
 | some d =>
  have : d ≠ t := h d rfl
  simp [dv, av, bB, this]
theorem wZ (T : List DV) (d : Option Tmp) (v : DV) : (dv T d v).length = T.length := by cases d <;> simp [dv]
theorem Agr.both (h : Agr L N s s') (e : Rec) : Agr L N (e.eff s) (e.eff s') := by
 obtain ⟨h1, h2, h3⟩ := h
 refine ⟨?_, fun t ht => ?_, fun n hn => ?_⟩
 ·simp only [Rec.eff, wZ, jX, h1]
 ·simp only [Rec.eff]
  by_cases hd : e.o.dst = some t
  ·rw [hd]
   simp only [dv, av, bB, jX, h1, if_true]
  ·have hne : ∀ x, e.o.dst = some x → x ≠ t := fun x hx e' => hd (by rw [hx, e'])
   rw [vj hne, vj hne, l7, l7, h2 t ht]
 ·simp only [Rec.eff, Heap.act2]
  split
  ·rfl
  ·rw [jc, jc, h3 n hn]
theorem Agr.right (h : Agr L N s s') (hf : wY e L N s) : Agr L N s (e.eff s') := by
 obtain ⟨h1, h2, h3⟩ := h
 refine ⟨?_, fun t ht => ?_, fun n hn => ?_⟩
 ·simp only [Rec.eff, wZ, jX, h1]
 ·simp only [Rec.eff]
  rw [vj (fun x hx e' => hf.1 x hx (e' ▸ ht)), l7, ← h2 t ht, hf.2.2.2 t ht]
 ·simp only [Rec.eff, Heap.act2]
  rw [if_neg (fun hc => hf.2.1 n (by simpa using hc) hn), jc, ← h3 n hn, hf.2.2.1 n hn]
theorem Agr.symm (h : Agr L N s s') : Agr L N s' s := ⟨h.1.symm, fun t ht => (h.2.1 t ht).symm, fun n hn => (h.2.2 n hn).symm⟩
theorem Agr.left (h : Agr L N s s') (hf : wY e L N s) : Agr L N (e.eff s) s' := by
 refine (h.symm.right ⟨hf.1, hf.2.1, fun n hn => ?_, fun t ht => ?_⟩).symm
 ·rw [← h.2.2 n hn]
  exact hf.2.2.1 n hn
 ·rw [← h.2.1 t ht]
  exact hf.2.2.2 t ht
theorem CO : ∀ {l : List Rec} {m : Nat} {s s' : St}, Agr L N s s' → (∀ i e, l[i]? = some e → S (m + i) = false → wY e L N (dr (l.take i) s)) → Agr L N (dr l s) (eZ m S l s')
 | [], _, _, _, h, _ => h
 | e :: r, m, s, s', h, hO => by
  simp only [dr, eZ]
  refine CO ?_ (fun i e' h1 h2 => hO (i + 1) e' h1 (by rw [← h2]; congr 1; omega))
  split
  ·exact h.both e
  ·rename_i hS
   exact h.left (hO 0 e rfl (by simpa using hS))
theorem CP : ∀ {l : List Rec} {m : Nat} {s s' : St}, Agr L N s s' → (∀ i e, l[i]? = some e → S (m + i) = true → wY e L N s) → Agr L N s (eZ m S l s')
 | [], _, _, _, h, _ => h
 | e :: r, m, s, s', h, hO => by
  simp only [eZ]
  refine CP ?_ (fun i e' h1 h2 => hO (i + 1) e' h1 (by rw [← h2]; congr 1; omega))
  split
  ·rename_i hS
   exact h.right (hO 0 e rfl (by simpa using hS))
  ·exact h
theorem o7 : ∀ {l l' : List Rec} {m : Nat} {s : St}, eZ m S (l ++ l') s = eZ (m + l.length) S l' (eZ m S l s)
 | [], _, _, _ => rfl
 | e :: r, l', m, s => by
  simp only [List.cons_append, eZ, aS]
  rw [o7]
  congr 1
  omega
theorem o8 : ∀ {l l' : List Rec} {s : St}, dr (l ++ l') s = dr l' (dr l s)
 | [], _, _ => rfl
 | e :: r, l', s => by simp only [List.cons_append, dr]; exact o8
theorem qy : ∀ {l : List Rec} {m : Nat} {s : St}, (∀ i, i < l.length → S (m + i) = S' (m + i)) → eZ m S l s = eZ m S' l s
 | [], _, _, _ => rfl
 | e :: r, m, s, h => by
  simp only [eZ]
  rw [show S m = S' m from h 0 (by simp), qy (l := r) (m := m + 1) (fun i hi => by
   have := h (i + 1) (by simp; omega)
   rw [show m + 1 + i = m + (i + 1) by omega]
   exact this)]
theorem vk : ∀ {l : List Rec} {m : Nat} {s : St}, (∀ i, i < l.length → S (m + i) = true) → eZ m S l s = dr l s
 | [], _, _, _ => rfl
 | e :: r, m, s, h => by
  simp only [eZ, dr]
  rw [show S m = true from h 0 (by simp), if_pos rfl, vk (l := r) (m := m + 1) (fun i hi => by
   have := h (i + 1) (by simp; omega)
   rw [show m + 1 + i = m + (i + 1) by omega]
   exact this)]
def Com (e f : Rec) : Prop := (∀ d, e.o.dst = some d → f.o.dst ≠ some d) ∧ (∀ n ∈ e.act.W, n ∉ f.act.W) ∧ (∀ n ∈ e.act.W, eV f.act.u n (e.act.B n) = e.act.B n) ∧ (∀ n ∈ f.act.W, eV e.act.u n (f.act.B n) = f.act.B n) ∧ fE e.act.u f.v.rows = true ∧ fE f.act.u e.v.rows = true
theorem Com.eff {e f : Rec} (h : Com e f) (s : St) : f.eff (e.eff s) = e.eff (f.eff s) := by
 obtain ⟨h1, h2, h3, h4, h5, h6⟩ := h
 simp only [Rec.eff, ah]
 constructor
 ·rw [wW h6, wW h5, uP]
  cases he : e.o.dst with
  | none => rfl
  | some d =>
   cases hf : f.o.dst with
   | none => rfl
   | some d' =>
    have : d ≠ d' := fun e' => h1 d he (e' ▸ hf)
    simp only [dv]
    exact List.set_comm _ _ this
 ·funext n
  simp only [Heap.act2, jc]
  by_cases he : n ∈ e.act.W
  ·have hf : n ∉ f.act.W := h2 n he
   have c1 : e.act.W.contains n = true := by simpa using he
   have c2 : ¬ f.act.W.contains n = true := by simpa using hf
   rw [if_neg c2, if_pos c1, if_pos c1, h3 n he]
  ·have c1 : ¬ e.act.W.contains n = true := by simpa using he
   by_cases hf : n ∈ f.act.W
   ·have c2 : f.act.W.contains n = true := by simpa using hf
    rw [if_pos c2, if_neg c1, if_pos c2, h4 n hf]
   ·have c2 : ¬ f.act.W.contains n = true := by simpa using hf
    rw [if_neg c2, if_neg c1, if_neg c1, if_neg c2]
    exact uN n _ _ _
theorem A6 : ∀ {l : List Rec} {m : Nat} {s : St}, (∀ i f, l[i]? = some f → S (m + i) = true → Com e f) → eZ m S l (e.eff s) = e.eff (eZ m S l s)
 | [], _, _, _ => rfl
 | f :: r, m, s, h => by
  simp only [eZ]
  have hr := A6 (l := r) (m := m + 1) (s := if S m then f.eff s else s) (fun i f' h1 h2 => h (i + 1) f' h1 (by rw [← h2]; congr 1; omega))
  rw [← hr]
  congr 1
  split
  ·rename_i hS
   exact (h 0 f rfl (by simpa using hS)).eff s
  ·rfl
theorem Hm {l : List Rec} {m j : Nat} {s : St} (hj : l[j]? = some e) (hS : S (m + j) = false) (hc : ∀ k f, j < k → l[k]? = some f → S (m + k) = true → Com e f) : eZ m (fun i => S i || i == m + j) l s = e.eff (eZ m S l s) := by
 have hlt := (List.getElem?_eq_some_iff.1 hj).1
 have hsplit : l = l.take j ++ e :: l.drop (j + 1) := by
  have : l[j] = e := (List.getElem?_eq_some_iff.1 hj).2
  rw [← this, List.getElem_cons_drop, bA]
 have hlen : (l.take j).length = j := by simp; omega
 generalize hp : l.take j = p at hsplit hlen
 generalize hq : l.drop (j + 1) = q at hsplit
 subst hsplit
 simp only [o7, eZ, hlen, hS, bJ, Bool.or_true, if_true, aD, au]
 rw [qy (S := fun i => S i || i == m + j) (S' := S) (l := p) (m := m) (fun i hi => by
   have : (m + i == m + j) = false := by rw [aH]; omega
   simp only [this, aZ]),
  qy (S := fun i => S i || i == m + j) (S' := S) (l := q) (m := m + j + 1) (fun i hi => by
   have : (m + j + 1 + i == m + j) = false := by rw [aH]; omega
   simp only [this, aZ])]
 refine A6 fun i f h1 h2 => hc (j + 1 + i) f (by omega) ?_ (by rw [← h2]; congr 1; omega)
 rw [bg (by omega), hlen, show j + 1 + i - j = i + 1 by omega]
 exact h1
theorem Hn {l : List Rec} {m j : Nat} {s : St} (hj : l[j]? = some e) (hS : S (m + j) = false) (h1 : ∀ i f, i < j → l[i]? = some f → S (m + i) = false → wY f L N (dr (l.take i) s)) (h2 : ∀ k f, j < k → l[k]? = some f → S (m + k) = true → wY f L N (dr (l.take j) s)) : Agr L N (dr (l.take j) s) (eZ m S l s) := by
 have hlt := (List.getElem?_eq_some_iff.1 hj).1
 have hsplit : l = l.take j ++ e :: l.drop (j + 1) := by
  have : l[j] = e := (List.getElem?_eq_some_iff.1 hj).2
  rw [← this, List.getElem_cons_drop, bA]
 have hlen : (l.take j).length = j := by simp; omega
 have htk : ∀ i, i < j → (l.take j).take i = l.take i := fun i hi => by rw [List.take_take, Nat.min_eq_left (by omega)]
 generalize hp : l.take j = p at *
 generalize hq : l.drop (j + 1) = q at hsplit
 have h1' : ∀ i f, i < j → l[i]? = some f → S (m + i) = false → wY f L N (dr (p.take i) s) := fun i f g1 g2 g3 => by rw [htk i g1]; exact h1 i f g1 g2 g3
 subst hsplit
 simp only [o7, eZ, hlen, hS, aD, au]
 refine CP (CO ⟨rfl, fun _ _ => rfl, fun _ _ => rfl⟩ fun i f g1 g2 => ?_) fun i f g1 g2 => ?_
 ·have hi := (List.getElem?_eq_some_iff.1 g1).1
  exact h1' i f (by omega) (by rw [bc hi]; exact g1) g2
 ·refine h2 (j + 1 + i) f (by omega) ?_ (by rw [← g2]; congr 1; omega)
  rw [bg (by omega), hlen, show j + 1 + i - j = i + 1 by omega]
  exact g1
end
section
variable {α : Type} (cx : Cx) (d : Nat) (ops : Array Oper)
def hZ (o : Oper) (T : List DV) : Option Bool := match o.guard with
 | none => some true
 | some (j, want) => match (ops[j]?).bind (·.dst) with
  | some g => match T.getD g .undef with
   | .sc (.bool b) => some (b == want)
   | .tup [] => some false
   | _ => none
  | none => none
def NT (o : Oper) (T : List DV) (H : Heap) (v : DV) (act : Act2) : Prop :=
 (∃ a, eh cx.P d o T H (fun v a => some (v, a)) = some (v, a) ∧ act = Act2.of a) ∨
 (∃ c f g x y S X m Y, o.op = .call c ∧ c.callee = .value f ∧ dh T f = .fn (.func g) x y ∧ gm cx.P g = true ∧ S ∈ cx.specs g ∧ FS.pure S = true ∧ S.tin.pr ⟨[], []⟩ (x ++ c.args.toList.map (dh T) ++ y) (fun _ => none) = some (X, m) ∧ S.fn X = some Y ∧ v = gf (S.tout.T dy (S.out Y)) ∧ act = Act2.of none) ∨
 ∃ c f g x y, o.op = .call c ∧ c.callee = .value f ∧ dh T f = .fn (.func g) x y ∧ nQ cx g (x ++ c.args.toList.map (dh T) ++ y) = some v ∧ act = Act2.of none
def NU (o : Oper) (T : List DV) (H : Heap) (v : DV) (act : Act2) : Prop :=
 ∃ c f g x y S X m Y b, o.op = .call c ∧ c.callee = .value f ∧ dh T f = .fn (.func g) x y ∧ gm cx.P g = true ∧ S ∈ cx.specs g ∧ S.tin.pr ⟨[], []⟩ (x ++ c.args.toList.map (dh T) ++ y) H = some (X, m) ∧ S.fn X = some Y ∧ S.tout.free (kf b m) ((dw m.u H).away m) = true ∧ v = gf (S.tout.T (kf b m) (S.out Y)) ∧ act = ⟨m.u, m.σ.map (·.2) ++ m.u ++ S.tout.names (kf b m), S.tout.H (kf b m) (S.out Y) fun _ => none⟩
def NV (o : Oper) (T : List DV) (H : Heap) (v : DV) (act : Act2) : Prop :=
 ∃ c x y t e s ys, o.op = .call c ∧ c.callee = .builtin .append ∧ c.args.toList = [x, y] ∧ c.argTypes.toList = [t, t] ∧ cx.P.underlying t = some (.slice e) ∧ gH cx.P 8 e = some s ∧ jE cx.P e s = true ∧ fc H s (dh T y) = some ys ∧ d5 cx.P d o e s (dh T x) ys H (fun v a => some (v, a)) = some (v, act)
def w7 (o : Oper) (T : List DV) (H : Heap) (v : DV) (act : Act2) : Prop :=
 ∃ b, hZ ops o T = some b ∧ ((b = true ∧ NT cx d o T H v act) ∨ (b = false ∧ v = .tup [] ∧ act = Act2.of none))
def qz (o : Oper) (T : List DV) (H : Heap) (v : DV) (act : Act2) : Prop := hZ ops o T = some true ∧ NU cx o T H v act
def w8 (o : Oper) (T : List DV) (H : Heap) (v : DV) (act : Act2) : Prop := hZ ops o T = some true ∧ NV cx d o T H v act
def t9 (o : Oper) (T : List DV) (H : Heap) (v : DV) (act : Act2) (rd : List Nat) : Prop := hZ ops o T = some true ∧
 ∃ c f g x y S X m Y, o.op = .call c ∧ c.callee = .value f ∧ dh T f = .fn (.func g) x y ∧ gm cx.P g = true ∧ S ∈ cx.qs g ∧ S.tin.pr ⟨[], []⟩ (x ++ c.args.toList.map (dh T) ++ y) H = some (X, m) ∧ S.fn X = some Y ∧ v = gf (S.tout.T dy (S.out Y)) ∧ act = ⟨[], [], fun _ => none⟩ ∧ rd = m.σ.map (·.2) ++ m.u
end
section
variable {α : Type} {cx : Cx} {d : Nat} {ops : Array Oper} {o : Oper} {T T' : List DV} {H H' : Heap} {v : DV} {act : Act2}
theorem oz (h : ∀ t ∈ o.looksAt ops, T.getD t .undef = T'.getD t .undef) : hZ ops o T = hZ ops o T' := by
 unfold hZ
 split
 ·rfl
 ·rename_i j want hg
  split
  ·rename_i g hj
   rw [h g (by simp [Oper.looksAt, hg, hj])]
  ·rfl
theorem Fg (h : Agr (o.looksAt ops) (fun n => n ∈ fj T o ∨ gt d o n = true) (T, H) (T', H')) (hs : w7 cx d ops o T H v act) : w7 cx d ops o T' H' v act := by
 obtain ⟨h1, h2, h3⟩ := h
 have hop : ∀ x ∈ o.op.operands.toList, dh T x = dh T' x := by
  intro x hx
  cases x with
  | tmp t => exact h2 t (bh _ (List.mem_filterMap.2 ⟨.tmp t, hx, rfl⟩))
  | _ => rfl
 obtain ⟨b, g1, g2⟩ := hs
 refine ⟨b, by rw [← oz h2]; exact g1, g2.imp (fun g => ⟨g.1, ?_⟩) id⟩
 rcases g.2 with ⟨ac, k, kk⟩ | ⟨c, f, g, x, y, S, X, m, Y, k1, k2, k3, k4, k5, k6, k7, k8⟩ | ⟨c, f, g, x, y, k1, k2, k3, k4, k5⟩
 ·refine .inl ⟨ac, ?_, kk⟩
  rw [← JI hop (fun n hn => h3 n (.inl hn)) (fun hb n n1 n2 => h3 n (.inr (by simp [gt, hb, n1, n2])))]
  exact k
 ·have hf : dh T f = dh T' f := hop f (by rw [k1]; simp [Op.operands, Call.operands, k2])
  have hA : c.args.toList.map (dh T) = c.args.toList.map (dh T') := bu fun x hx => hop x (by rw [k1]; simp [Op.operands, Call.operands, Array.mem_toList_iff.1 hx])
  exact .inr (.inl ⟨c, f, g, x, y, S, X, m, Y, k1, k2, hf ▸ k3, k4, k5, k6, hA ▸ k7, k8⟩)
 ·have hf : dh T f = dh T' f := hop f (by rw [k1]; simp [Op.operands, Call.operands, k2])
  have hA : c.args.toList.map (dh T) = c.args.toList.map (dh T') := bu fun x hx => hop x (by rw [k1]; simp [Op.operands, Call.operands, Array.mem_toList_iff.1 hx])
  exact .inr (.inr ⟨c, f, g, x, y, k1, k2, hf ▸ k3, hA ▸ k4, k5⟩)
theorem yZ {H H' : Heap} {E : TypeId} {s : Sh} {d : DV} {xs : List s.T} {u : List Nat} (h : jm H E s d = some (xs, u)) (he : ∀ n ∈ u, H n = H' n) : jm H' E s d = some (xs, u) := by
 cases d
 case rw n =>
  simp only [jm] at h ⊢
  cases hb : H n with
  | none => rw [hb] at h; cases h
  | some b =>
   have hn : n ∈ u := by
    rw [hb] at h
    cases b <;> simp only at h <;> try cases h
    split at h
    ·split at h
     ·simp only [aa, ah] at h
      rw [← h.2]; simp
     ·cases h
    ·cases h
   rw [← he n hn]
   exact h
 case sl n o l =>
  simp only [jm] at h ⊢
  cases hb : H n with
  | none => rw [hb] at h; cases h
  | some b =>
   have hn : n ∈ u := by
    rw [hb] at h
    cases b <;> simp only at h <;> try cases h
    split at h
    ·split at h
     ·split at h
      ·simp only [aa, ah] at h
       rw [← h.2]; simp
      ·cases h
     ·cases h
    ·cases h
   rw [← he n hn]
   exact h
 case sc v =>
  cases v with
  | slice a n c =>
   cases a with
   | none => exact h
   | some a => simp only [jm] at h; cases h
  | _ => simp only [jm] at h; cases h
 all_goals (simp only [jm] at h; cases h)
theorem w9 : ∀ {l : List Nat} {T : List DV} {m m' : Met}, pk l T m = some m' → m'.u = m.u ∧ ∀ e ∈ m.σ, e ∈ m'.σ
 | [], T, m, m', h => by
  simp only [pk] at h
  split at h
  ·simp only [aa] at h; subst h; exact ⟨rfl, fun e he => he⟩
  ·cases h
 | i :: r, T, m, m', h => by
  simp only [pk] at h
  split at h
  ·split at h
   ·split at h
    ·exact w9 h
    ·cases h
   ·obtain ⟨h1, h2⟩ := w9 h
    exact ⟨h1, fun e he => h2 e (aB _ he)⟩
  ·cases h
def Met.le (m m' : Met) : Prop := (∀ n ∈ m.u, n ∈ m'.u) ∧ ∀ e ∈ m.σ, e ∈ m'.σ
theorem Met.le.refl (m : Met) : m.le m := ⟨fun _ h => h, fun _ h => h⟩
theorem Met.le.trans {a b c : Met} (h : a.le b) (k : b.le c) : a.le c := ⟨fun n hn => k.1 n (h.1 n hn), fun e he => k.2 e (h.2 e he)⟩
theorem mr {H : Heap} : ∀ {ks : List IK} {T : List DV} {m m' : Met} {x : hP ks}, eb H ks T m = some (x, m') → m.le m'
 | [], T, m, m', x, h => by
  simp only [eb] at h
  split at h
  ·simp only [aa, ah] at h; rw [h.2]; exact .refl _
  ·cases h
 | .any :: r, T, m, m', x, h => by
  simp only [eb] at h
  split at h
  ·exact mr h
  ·cases h
 | .val s :: r, T, m, m', x, h => by
  simp only [eb] at h
  split at h
  ·split at h
   ·split at h
    ·rename_i hz
     simp only [aa, ah] at h
     rw [← h.2]
     exact mr hz
    ·cases h
   ·cases h
  ·cases h
 | .agf s F :: r, T, m, m', x, h => by
  simp only [eb] at h
  split at h
  ·split at h
   ·split at h
    ·split at h
     ·rename_i hz
      simp only [aa, ah] at h
      rw [← h.2]
      exact mr hz
     ·cases h
    ·cases h
   ·cases h
  ·cases h
 | .row E s :: r, T, m, m', x, h => by
  simp only [eb] at h
  split at h
  ·split at h
   ·split at h
    ·rename_i hz
     simp only [aa, ah] at h
     rw [← h.2]
     exact Met.le.trans (b := ⟨m.σ, _ ++ m.u⟩) ⟨fun n hn => bD _ hn, fun e he => he⟩ (mr hz)
    ·cases h
   ·cases h
  ·cases h
 | .obj i :: r, T, m, m', x, h => by
  simp only [eb] at h
  split at h
  ·split at h
   ·split at h
    ·exact mr h
    ·cases h
   ·exact Met.le.trans (b := ⟨_ :: m.σ, m.u⟩) ⟨fun n hn => hn, fun e he => aB _ he⟩ (mr h)
  ·cases h
 | .clo F is :: r, T, m, m', x, h => by
  simp only [eb] at h
  split at h
  ·split at h
   ·split at h
    ·rename_i hp
     obtain ⟨h1, h2⟩ := w9 hp
     exact Met.le.trans ⟨fun n hn => by rw [h1]; exact hn, h2⟩ (mr h)
    ·cases h
   ·cases h
  ·cases h
 | .tab ks vs :: r, T, m, m', x, h => by simp only [eb] at h; cases h
theorem jH {H : Heap} : ∀ {ks : List IK} {T : List DV} {m m' : Met} {x : hP ks}, fU H ks T m = some (x, m') → m.le m'
 | [], T, m, m', x, h => by
  simp only [fU] at h
  split at h
  ·simp only [aa, ah] at h; rw [h.2]; exact .refl _
  ·cases h
 | .any :: r, T, m, m', x, h => by
  simp only [fU] at h
  split at h
  ·cases h
  ·exact jH h
  ·cases h
 | .val s :: r, T, m, m', x, h => by
  simp only [fU] at h
  split at h
  ·split at h
   ·rename_i hz
    simp only [aa, ah] at h
    rw [← h.2]
    exact jH hz
   ·cases h
  ·cases h
 | .agf s F :: r, T, m, m', x, h => by
  simp only [fU] at h
  split at h
  ·split at h
   ·split at h
    ·rename_i hz
     simp only [aa, ah] at h
     rw [← h.2]
     exact jH hz
    ·cases h
   ·cases h
  ·cases h
 | .row E s :: r, T, m, m', x, h => by
  simp only [fU] at h
  split at h
  ·split at h
   ·split at h
    ·rename_i hz
     simp only [aa, ah] at h
     rw [← h.2]
     exact Met.le.trans (b := ⟨m.σ, _ ++ m.u⟩) ⟨fun n hn => bD _ hn, fun e he => he⟩ (jH hz)
    ·cases h
   ·cases h
  ·cases h
 | .obj i :: r, T, m, m', x, h => by
  simp only [fU] at h
  split at h
  ·split at h
   ·split at h
    ·exact jH h
    ·cases h
   ·exact Met.le.trans (b := ⟨_ :: m.σ, m.u⟩) ⟨fun n hn => hn, fun e he => aB _ he⟩ (jH h)
  ·cases h
 | .clo F is :: r, T, m, m', x, h => by
  simp only [fU] at h
  split at h
  ·split at h
   ·split at h
    ·rename_i hp
     obtain ⟨h1, h2⟩ := w9 hp
     exact Met.le.trans ⟨fun n hn => by rw [h1]; exact hn, h2⟩ (jH h)
    ·cases h
   ·cases h
  ·cases h
 | .tab ks vs :: r, T, m, m', x, h => by simp only [fU] at h; cases h
theorem A7 {H : Heap} : ∀ {os : List (List IK)} {i : Nat} {m m' : Met} {x : oS os}, mX H i os m = some (x, m') → m.le m'
 | [], i, m, m', x, h => by
  simp only [mX, aa, ah] at h; rw [h.2]; exact .refl _
 | k :: r, i, m, m', x, h => by
  simp only [mX] at h
  split at h
  ·split at h
   ·split at h
    ·rename_i hc
     split at h
     ·rename_i hz
      simp only [aa, ah] at h
      rw [← h.2]
      exact (jH hc).trans (A7 hz)
     ·cases h
    ·cases h
   ·cases h
  ·cases h
theorem ky {H H' : Heap} : ∀ {ks : List IK} {T : List DV} {m m' : Met} {x : hP ks}, eb H ks T m = some (x, m') → (∀ n ∈ m'.u, H n = H' n) → eb H' ks T m = some (x, m')
 | [], T, m, m', x, h, he => h
 | .any :: r, T, m, m', x, h, he => by
  simp only [eb] at h ⊢
  split at h
  ·exact ky h he
  ·cases h
 | .val s :: r, T, m, m', x, h, he => by
  simp only [eb] at h ⊢
  split at h
  ·split at h
   ·rename_i hv
    split at h
    ·rename_i hz
     simp only [aa, ah] at h
     obtain ⟨h1, rfl⟩ := h
     simp only [hv, ky hz he, h1]
    ·cases h
   ·cases h
  ·cases h
 | .agf s F :: r, T, m, m', x, h, he => by
  simp only [eb] at h ⊢
  split at h
  ·split at h
   ·rename_i hv
    split at h
    ·rename_i hF
     split at h
     ·rename_i hz
      simp only [aa, ah] at h
      obtain ⟨h1, rfl⟩ := h
      simp only [hv, hF, if_true, ky hz he, h1]
     ·cases h
    ·cases h
   ·cases h
  ·cases h
 | .row E s :: r, T, m, m', x, h, he => by
  simp only [eb] at h ⊢
  split at h
  ·split at h
   ·rename_i hv
    split at h
    ·rename_i hz
     simp only [aa, ah] at h
     obtain ⟨h1, rfl⟩ := h
     have hle := (mr hz).1
     simp only [yZ hv fun n hn => he n (hle n (bh _ hn)), ky hz he, h1]
    ·cases h
   ·cases h
  ·cases h
 | .obj i :: r, T, m, m', x, h, he => by
  simp only [eb] at h ⊢
  split at h
  ·split at h
   ·rename_i hg
    split at h
    ·rename_i hn
     simp only [hg, hn, if_true]
     exact ky h he
    ·cases h
   ·exact ky h he
  ·cases h
 | .clo F is :: r, T, m, m', x, h, he => by
  simp only [eb] at h ⊢
  split at h
  ·split at h
   ·rename_i hF
    split at h
    ·rename_i hp
     simp only [hF, if_true, hp]
     exact ky h he
    ·cases h
   ·cases h
  ·cases h
 | .tab ks vs :: r, T, m, m', x, h, he => by simp only [eb] at h; cases h
theorem kz {H H' : Heap} : ∀ {ks : List IK} {T : List DV} {m m' : Met} {x : hP ks}, fU H ks T m = some (x, m') → (∀ n ∈ m'.u, H n = H' n) → fU H' ks T m = some (x, m')
 | [], T, m, m', x, h, he => h
 | .any :: r, T, m, m', x, h, he => by
  simp only [fU] at h ⊢
  split at h
  ·cases h
  ·exact kz h he
  ·cases h
 | .val s :: r, T, m, m', x, h, he => by
  simp only [fU] at h ⊢
  split at h
  ·rename_i hv
   split at h
   ·rename_i hz
    simp only [aa, ah] at h
    obtain ⟨h1, rfl⟩ := h
    simp only [hv, kz hz he, h1]
   ·cases h
  ·cases h
 | .agf s F :: r, T, m, m', x, h, he => by
  simp only [fU] at h ⊢
  split at h
  ·rename_i hv
   split at h
   ·rename_i hF
    split at h
    ·rename_i hz
     simp only [aa, ah] at h
     obtain ⟨h1, rfl⟩ := h
     simp only [hv, hF, if_true, kz hz he, h1]
    ·cases h
   ·cases h
  ·cases h
 | .row E s :: r, T, m, m', x, h, he => by
  simp only [fU] at h ⊢
  split at h
  ·split at h
   ·rename_i hv
    split at h
    ·rename_i hz
     simp only [aa, ah] at h
     obtain ⟨h1, rfl⟩ := h
     have hle := (jH hz).1
     simp only [yZ hv fun n hn => he n (hle n (bh _ hn)), kz hz he, h1]
    ·cases h
   ·cases h
  ·cases h
 | .obj i :: r, T, m, m', x, h, he => by
  simp only [fU] at h ⊢
  split at h
  ·split at h
   ·rename_i hg
    split at h
    ·rename_i hn
     simp only [hg, hn, if_true]
     exact kz h he
    ·cases h
   ·exact kz h he
  ·cases h
 | .clo F is :: r, T, m, m', x, h, he => by
  simp only [fU] at h ⊢
  split at h
  ·split at h
   ·rename_i hF
    split at h
    ·rename_i hp
     simp only [hF, if_true, hp]
     exact kz h he
    ·cases h
   ·cases h
  ·cases h
 | .tab ks vs :: r, T, m, m', x, h, he => by simp only [fU] at h; cases h
theorem get_mem {m : Met} {i n : Nat} (h : m.get i = some n) : (i, n) ∈ m.σ := by
 unfold Met.get at h
 obtain ⟨e, h1, h2⟩ := Option.map_eq_some_iff.1 h
 have h3 := ce h1
 have h4 := cf h1
 simp only [ae] at h3
 obtain ⟨a, b⟩ := e
 simp only at h2 h3
 rw [← h2, ← h3]
 exact h4
theorem CQ {H H' : Heap} : ∀ {os : List (List IK)} {i : Nat} {m m' : Met} {x : oS os}, mX H i os m = some (x, m') → (∀ n, n ∈ m'.u ∨ n ∈ m'.σ.map (·.2) → H n = H' n) → mX H' i os m = some (x, m')
 | [], i, m, m', x, h, he => h
 | k :: r, i, m, m', x, h, he => by
  simp only [mX] at h ⊢
  split at h
  ·rename_i n hg
   split at h
   ·rename_i cs hn
    split at h
    ·rename_i hc
     split at h
     ·rename_i hz
      simp only [aa, ah] at h
      obtain ⟨h1, rfl⟩ := h
      have l1 := jH hc
      have l2 := A7 hz
      have hH : H n = H' n := he n (.inr (List.mem_map.2 ⟨_, l2.2 _ (l1.2 _ (get_mem hg)), rfl⟩))
      simp only [hg, ← hH, hn, kz hc fun n hn => he n (.inl (l2.1 n hn)), CQ hz he, h1]
     ·cases h
    ·cases h
   ·cases h
  ·cases h
theorem Fh {t : Tmpl} {A : List DV} {H H' : Heap} {m0 m : Met} {X : t.Ty} (h : t.pr m0 A H = some (X, m)) (he : ∀ n, n ∈ m.u ∨ n ∈ m.σ.map (·.2) → H n = H' n) : t.pr m0 A H' = some (X, m) := by
 unfold Tmpl.pr at h ⊢
 split at h
 ·rename_i h1
  split at h
  ·rename_i h2
   split at h
   ·rename_i h3
    simp only [aa, ah] at h
    obtain ⟨h4, rfl⟩ := h
    simp only [ky h1 fun n hn => he n (.inl ((A7 h2).1 n hn)), CQ h2 he, h3, if_true, h4]
   ·cases h
  ·cases h
 ·cases h
theorem Fi {t : Tmpl} {A : List DV} {H : Heap} {m0 m : Met} {X : t.Ty} (h : t.pr m0 A H = some (X, m)) : kK (m.σ.map (·.1)) = true := by
 unfold Tmpl.pr at h
 split at h
 ·split at h
  ·split at h
   ·rename_i h3
    simp only [aa, ah] at h
    simp only [ai] at h3
    rw [← h.2]
    exact h3.1.2
   ·cases h
  ·cases h
 ·cases h
theorem Ho {H H' : Heap} {m : Met} {n : Nat} (h : H n = H' n) : ((dw m.u H).away m) n = ((dw m.u H').away m) n := by
 unfold Heap.away
 split
 ·rfl
 ·rw [jc, jc, h]
theorem Hp {t : Tmpl} {ρ : Nam} {H H' : Heap} (h : t.free ρ H = true) (he : ∀ n ∈ t.names ρ, H n = H' n) : t.free ρ H' = true := by
 unfold Tmpl.free at h ⊢
 simp only [ai, aR] at h ⊢
 exact ⟨h.1, fun n hn => by rw [← he n hn]; exact h.2 n hn⟩
theorem Fj (h : Agr (o.looksAt ops) (fun n => n ∈ act.W) (T, H) (T', H')) (hs : qz cx ops o T H v act) : qz cx ops o T' H' v act := by
 obtain ⟨h1, h2, h3⟩ := h
 have hop : ∀ x ∈ o.op.operands.toList, dh T x = dh T' x := by
  intro x hx
  cases x with
  | tmp t => exact h2 t (bh _ (List.mem_filterMap.2 ⟨.tmp t, hx, rfl⟩))
  | _ => rfl
 obtain ⟨g1, c, f, g, x, y, S, X, m, Y, b, k1, k2, k3, k4, k5, k6, k7, k8, k9, k10⟩ := hs
 have hf : dh T f = dh T' f := hop f (by rw [k1]; simp [Op.operands, Call.operands, k2])
 have hA : c.args.toList.map (dh T) = c.args.toList.map (dh T') := bu fun x hx => hop x (by rw [k1]; simp [Op.operands, Call.operands, Array.mem_toList_iff.1 hx])
 have hW : ∀ n, n ∈ m.σ.map (·.2) ∨ n ∈ m.u ∨ n ∈ S.tout.names (kf b m) → H n = H' n := fun n hn => h3 n (by
  show n ∈ act.W
  rw [k10]
  simp only [az]
  rcases hn with hn | hn | hn
  ·exact .inl (.inl hn)
  ·exact .inl (.inr hn)
  ·exact .inr hn)
 refine ⟨by rw [← oz h2]; exact g1, c, f, g, x, y, S, X, m, Y, b, k1, k2, hf ▸ k3, k4, k5, ?_, k7, ?_, k9, k10⟩
 ·rw [← hA]
  exact Fh k6 fun n hn => hW n (hn.elim (fun h => .inr (.inl h)) .inl)
 ·exact Hp k8 fun n hn => Ho (hW n (.inr (.inr hn)))
theorem Fk {rd : List Nat} (h : Agr (o.looksAt ops) (fun n => n ∈ rd) (T, H) (T', H')) (hs : t9 cx ops o T H v act rd) : t9 cx ops o T' H' v act rd := by
 obtain ⟨h1, h2, h3⟩ := h
 have hop : ∀ x ∈ o.op.operands.toList, dh T x = dh T' x := by
  intro x hx
  cases x with
  | tmp t => exact h2 t (bh _ (List.mem_filterMap.2 ⟨.tmp t, hx, rfl⟩))
  | _ => rfl
 obtain ⟨g1, c, f, g, x, y, S, X, m, Y, k1, k2, k3, k4, k5, k6, k7, k8, k9, k10⟩ := hs
 have hf : dh T f = dh T' f := hop f (by rw [k1]; simp [Op.operands, Call.operands, k2])
 have hA : c.args.toList.map (dh T) = c.args.toList.map (dh T') := bu fun x hx => hop x (by rw [k1]; simp [Op.operands, Call.operands, Array.mem_toList_iff.1 hx])
 have hW : ∀ n, n ∈ m.σ.map (·.2) ∨ n ∈ m.u → H n = H' n := fun n hn => h3 n (by
  show n ∈ rd
  rw [k10]
  simp only [az]
  exact hn)
 refine ⟨by rw [← oz h2]; exact g1, c, f, g, x, y, S, X, m, Y, k1, k2, hf ▸ k3, k4, k5, ?_, k7, k8, k9, k10⟩
 rw [← hA]
 exact Fh k6 fun n hn => hW n (hn.elim .inr .inl)
theorem D6 {s : Sh} {y : DV} {ys : List s.T} (h : fc H s y = some ys) (he : ∀ n ∈ ig y, H n = H' n) : fc H' s y = some ys := by
 cases y
 case rw n =>
  have := he n (by simp [ig])
  simp only [fc] at h ⊢
  rw [← this]; exact h
 case sl n o l =>
  have := he n (by simp [ig])
  simp only [fc] at h ⊢
  rw [← this]; exact h
 case sc v =>
  cases v with
  | slice a n c =>
   cases a with
   | none => exact h
   | some a => simp only [fc] at h; cases h
  | _ => simp only [fc] at h; cases h
 case vs s' xs => exact h
 all_goals (simp only [fc] at h; cases h)
theorem uQ {P : Program} {E : TypeId} {s : Sh} {x : DV} {ys : List s.T} {k : DV → Act2 → Option α} : d5 P d o E s x ys H k = (d5 P d o E s x ys H fun v a => some (v, a)).bind fun e => k e.1 e.2 := by
 unfold d5
 repeat' split
 all_goals rfl
theorem Cv {P : Program} {E : TypeId} {s : Sh} {x : DV} {ys : List s.T} {p : DV × Act2} (h : d5 P d o E s x ys H (fun v a => some (v, a)) = some p) (he : ∀ n, n ∈ ig x ∨ n ∈ p.2.W → H n = H' n) : d5 P d o E s x ys H' (fun v a => some (v, a)) = some p := by
 cases x
 case rw n =>
  have := he n (.inl (by simp [ig]))
  simp only [d5] at h ⊢
  rw [← this]; exact h
 case sl n o l =>
  have := he n (.inl (by simp [ig]))
  simp only [d5] at h ⊢
  rw [← this]; exact h
 case sc v =>
  cases v with
  | slice a n c =>
   cases a with
   | none =>
    simp only [d5] at h ⊢
    split at h
    ·rename_i h1
     rw [if_pos h1]
     split at h
     ·rename_i h2
      simp only [aa] at h
      have := he (base d o.dst) (.inr (by rw [← h]; simp))
      rw [← this, h2]
      simp only [h]
     ·cases h
    ·cases h
   | some a => simp only [d5] at h; cases h
  | _ => simp only [d5] at h; cases h
 all_goals (simp only [d5] at h; cases h)
theorem Fl (h : Agr (o.looksAt ops) (fun n => n ∈ fj T o ++ act.W) (T, H) (T', H')) (hs : w8 cx d ops o T H v act) : w8 cx d ops o T' H' v act := by
 obtain ⟨h1, h2, h3⟩ := h
 have hop : ∀ x ∈ o.op.operands.toList, dh T x = dh T' x := by
  intro x hx
  cases x with
  | tmp t => exact h2 t (bh _ (List.mem_filterMap.2 ⟨.tmp t, hx, rfl⟩))
  | _ => rfl
 obtain ⟨g1, c, x, y, t, e, s, ys, k1, k2, k3, k4, k5, k6, k7, k8, k9⟩ := hs
 have hxm : x ∈ o.op.operands.toList := by rw [k1]; simp [Op.operands, Call.operands, k2, k3]
 have hym : y ∈ o.op.operands.toList := by rw [k1]; simp [Op.operands, Call.operands, k2, k3]
 have hr : ∀ z ∈ o.op.operands.toList, ∀ n ∈ ig (dh T z), H n = H' n := fun z hz n hn => h3 n (by
  refine bh _ ?_
  unfold fj
  have hl : rH o = true := by unfold rH; rw [k1]
  rw [if_pos hl]
  exact List.mem_flatMap.2 ⟨z, hz, hn⟩)
 refine ⟨by rw [← oz h2]; exact g1, c, x, y, t, e, s, ys, k1, k2, k3, k4, k5, k6, k7, ?_, ?_⟩
 ·rw [← hop y hym]
  exact D6 k8 (hr y hym)
 ·rw [← hop x hxm]
  exact Cv k9 fun n hn => hn.elim (hr x hxm n) (fun hn => h3 n (bD _ hn))
theorem o9 {x y : Did} (h : iN d ops x y = true) : (∀ n ∈ x.w, n ∉ y.r ∧ n ∉ y.w ∧ gt d y.o n = false) ∧ (∀ n ∈ y.w, n ∉ x.r ∧ gt d x.o n = false) ∧ x.o.apart ops y.o = true ∧ (x.u ≠ [] → fE x.u y.h = true ∧ lG x.u x.H d y.o = true ∧ (∀ n ∈ y.r, fE x.u (l6 (x.H n)) = true) ∧ ∀ t ∈ y.o.looksAt ops, fE x.u (x.T.getD t .undef).rows = true) ∧ (y.u ≠ [] → fE y.u x.h = true ∧ lG y.u x.H d x.o = true) := by
 unfold iN DX DW at h
 simp only [ai, aR, aE, b9, cr, decide_eq_false_iff_not, List.isEmpty_iff] at h
 obtain ⟨⟨h1, h2, h3, h4⟩, h5⟩ := h
 refine ⟨fun n hn => ?_, fun n hn => ?_, h5, fun hc => ?_, fun hc => ?_⟩
 ·obtain ⟨a, b, c⟩ := h1 n hn
  exact ⟨a, b, c⟩
 ·exact h2 n hn
 ·rcases h3 with h3 | h3
  ·exact absurd h3 hc
  ·exact ⟨h3.1, h3.2.1, h3.2.2.1, h3.2.2.2⟩
 ·rcases h4 with h4 | h4
  ·exact absurd h4 hc
  ·exact h4
theorem uR {u : List Nat} {H : Heap} {o : Oper} {n : Nat} (h : lG u H d o = true) (hn : gt d o n = true) : fE u (l6 (H n)) = true := by
 unfold gt at hn
 simp only [ai, aj] at hn
 unfold lG at h
 rw [hn.1.1] at h
 simp only [bS, bv, aR, bf] at h
 have := h (n - base d o.dst) (by omega)
 rw [show base d o.dst + (n - base d o.dst) = n by omega] at this
 exact this
structure Rec.Fit (ops : Array Oper) (e : Rec) (s : St) : Prop where
 T : e.T = s.1
 H : e.H = s.2
 h : e.h = Au ops s.1 s.2 e.o e.v e.r e.act
 u : ∀ n ∈ e.act.u, n ∈ e.act.W
variable {s s' : St}
theorem Rec.Fit.rows {e : Rec} (he : e.Fit ops s) {u : List Nat} (h : fE u e.h = true) : fE u e.v.rows = true ∧ (∀ t ∈ e.o.looksAt ops, fE u (s.1.getD t .undef).rows = true) ∧ (∀ n ∈ e.r, fE u (l6 (s.2 n)) = true) ∧ ∀ n ∈ e.act.W, fE u (l6 (e.act.B n)) = true := by
 rw [he.h, disjB_iff] at h
 unfold Au at h
 simp only [az, not_or, List.mem_flatMap, not_exists, not_and] at h
 exact ⟨disjB_iff.2 fun n hn => (h n hn).1, fun t ht => disjB_iff.2 fun n hn => (h n hn).2.1 t ht, fun q hq => disjB_iff.2 fun n hn => (h n hn).2.2.1 q hq, fun q hq => disjB_iff.2 fun n hn => (h n hn).2.2.2 q hq⟩
theorem Hq {e f : Rec} (he : e.Fit ops s) (h : iN d ops e.did f.did = true) : wY e (f.o.looksAt ops) (fun n => n ∈ f.r ∨ gt d f.o n = true) s := by
 obtain ⟨h1, h2, h3, h4, h5⟩ := o9 h
 obtain ⟨g1, g2, g3⟩ := Oper.apart_spec h3
 refine ⟨fun t ht => g1 t ht, fun n hn => ?_, fun n hn => ?_, fun t ht => ?_⟩
 ·obtain ⟨k1, k2, k3⟩ := h1 n hn
  rintro (k | k)
  ·exact k1 k
  ·have k3' : gt d f.o n = false := k3
   rw [k3'] at k; cases k
 ·by_cases hu : e.act.u = []
  ·rw [hu]; rfl
  ·obtain ⟨q1, q2, q3, q4⟩ := h4 hu
   rcases hn with hnr | k
   ·refine gv (fun hu => ?_) (by rw [← he.H]; exact q3 n hnr)
    exact (h1 n (he.u n hu)).1 hnr
   ·refine gv (fun hu => ?_) (by rw [← he.H]; exact uR q2 k)
    have k3 : gt d f.o n = false := (h1 n (he.u n hu)).2.2
    rw [k3] at k; cases k
 ·by_cases hu : e.act.u = []
  ·rw [hu]; rfl
  ·obtain ⟨q1, q2, q3, q4⟩ := h4 hu
   rw [← he.T]
   exact l8 (q4 t ht)
theorem Fm {e f : Rec} (he : e.Fit ops s) (hf : f.Fit ops s') (h : iN d ops e.did f.did = true) : wY f (e.o.looksAt ops) (fun n => n ∈ e.r ∨ gt d e.o n = true) s := by
 obtain ⟨h1, h2, h3, h4, h5⟩ := o9 h
 obtain ⟨g1, g2, g3⟩ := Oper.apart_spec h3
 refine ⟨fun t ht => g3 t ht, fun n hn => ?_, fun n hn => ?_, fun t ht => ?_⟩
 ·obtain ⟨k1, k2⟩ := h2 n hn
  rintro (k | k)
  ·exact k1 k
  ·have k2' : gt d e.o n = false := k2
   rw [k2'] at k; cases k
 ·by_cases hu : f.act.u = []
  ·rw [hu]; rfl
  ·obtain ⟨q1, q2⟩ := h5 hu
   rcases hn with hnr | k
   ·refine gv (fun hu => ?_) ((he.rows q1).2.2.1 n hnr)
    exact (h2 n (hf.u n hu)).1 hnr
   ·refine gv (fun hu => ?_) (by rw [← he.H]; exact uR q2 k)
    have k2 : gt d e.o n = false := (h2 n (hf.u n hu)).2
    rw [k2] at k; cases k
 ·by_cases hu : f.act.u = []
  ·rw [hu]; rfl
  ·obtain ⟨q1, q2⟩ := h5 hu
   exact l8 ((he.rows q1).2.1 t ht)
theorem Kn {e f : Rec} (he : e.Fit ops s) (hf : f.Fit ops s') (h : iN d ops e.did f.did = true) : Com e f := by
 obtain ⟨h1, h2, h3, h4, h5⟩ := o9 h
 obtain ⟨g1, g2, g3⟩ := Oper.apart_spec h3
 have nil : ∀ h, fE [] h = true := fun h => rfl
 refine ⟨fun t ht => g2 t ht, fun n hn => (h1 n hn).2.1, fun n hn => ?_, fun n hn => ?_, ?_, ?_⟩
 ·by_cases hu : f.act.u = []
  ·rw [hu]; rfl
  ·refine gv (fun hu => ?_) ((he.rows (h5 hu).1).2.2.2 n hn)
   exact (h1 n hn).2.1 (hf.u n hu)
 ·by_cases hu : e.act.u = []
  ·rw [hu]; rfl
  ·refine gv (fun hu => ?_) ((hf.rows (h4 hu).1).2.2.2 n hn)
   exact (h1 n (he.u n hu)).2.1 hn
 ·by_cases hu : e.act.u = []
  ·rw [hu]; rfl
  ·exact (hf.rows (h4 hu).1).1
 ·by_cases hu : f.act.u = []
  ·rw [hu]; rfl
  ·exact (he.rows (h5 hu).1).1
end
def jd (P : Program) (f : FuncId) (S : FS) : Prop := ∀ {α : Type} {I : In} {w : World} {H : Heap} {A : List DV} {args : List Value} {ρ : Nam} {k : DV → Heap → Option (List Nat) → Option α} {r : α} {x : S.tin.Ty} {m : Met}, HR I w H → LR I w A args → S.tin.pr ⟨[], []⟩ A H = some (x, m) → (∀ i n, (i, n) ∈ m.σ → ρ.o i = n) →
 ((S.fn x).bind fun y => if S.tout.free ρ ((dw m.u H).away m) = true then k (gf (S.tout.T ρ (S.out y))) (S.tout.H ρ (S.out y) ((dw m.u H).away m)) (some m.u) else none) = some r →
 Calls P f args.toArray w (rQ fun z w' => ∃ I' v H' u, k v H' u = some r ∧ Ext I w I' w' ∧ HR I' w' H' ∧ VR I' w' v z ∧ Hk u I I')
theorem jr {ρ : Nam} : ∀ {ks : List IK} {c : Nat} {x : hP ks} {H : Heap} {n : Nat}, n ∉ dV ρ c ks → fC ρ c ks x H n = H n
 | [], c, x, H, n, h => rfl
 | .any :: r, c, x, H, n, h => jr (ks := r) h
 | .val s :: r, c, x, H, n, h => jr (ks := r) h
 | .agf s F :: r, c, x, H, n, h => jr (ks := r) h
 | .obj i :: r, c, x, H, n, h => jr (ks := r) h
 | .clo F is :: r, c, x, H, n, h => jr (ks := r) h
 | .tab ks vs :: r, c, x, H, n, h => jr (ks := r) h
 | .row E s :: r, c, x, H, n, h => by
  simp only [dV, aC, not_or] at h
  show fC ρ (c + 1) r x.2 (H.set (ρ.r c) (some (.row E s x.1))) n = H n
  rw [jr (ks := r) h.2]
  simp only [Heap.set, h.1, au]
theorem iP {ρ : Nam} : ∀ {ks : List IK} {c : Nat} {x : hP ks} {H H' : Heap} {n : Nat}, n ∈ dV ρ c ks ∨ H n = H' n → fC ρ c ks x H n = fC ρ c ks x H' n
 | [], c, x, H, H', n, h => h.elim (fun h => by cases h) id
 | .any :: r, c, x, H, H', n, h => iP (ks := r) h
 | .val s :: r, c, x, H, H', n, h => iP (ks := r) h
 | .agf s F :: r, c, x, H, H', n, h => iP (ks := r) h
 | .obj i :: r, c, x, H, H', n, h => iP (ks := r) h
 | .clo F is :: r, c, x, H, H', n, h => iP (ks := r) h
 | .tab ks vs :: r, c, x, H, H', n, h => iP (ks := r) h
 | .row E s :: r, c, x, H, H', n, h => by
  refine iP (ks := r) ?_
  simp only [dV, aC] at h
  simp only [Heap.set]
  rcases h with (h | h) | h
  ·right; simp [h]
  ·exact .inl h
  ·right
   split
   ·rfl
   ·exact h
theorem CT {ρ : Nam} : ∀ {os : List (List IK)} {i : Nat} {x : oS os} {H : Heap} {n : Nat}, n ∉ fP ρ i os → rC ρ i os x H n = H n
 | [], i, x, H, n, h => rfl
 | k :: r, i, x, H, n, h => by
  simp only [fP, aC, az, not_or] at h
  show rC ρ (i + 1) r x.2 (fC ρ (1000 * (i + 1)) k x.1 (H.set (ρ.o i) (some (.obj (ol ρ (1000 * (i + 1)) k x.1))))) n = H n
  rw [CT (os := r) h.2.2, jr h.2.1]
  simp only [Heap.set, h.1, au]
theorem Fo {ρ : Nam} : ∀ {os : List (List IK)} {i : Nat} {x : oS os} {H H' : Heap} {n : Nat}, n ∈ fP ρ i os ∨ H n = H' n → rC ρ i os x H n = rC ρ i os x H' n
 | [], i, x, H, H', n, h => h.elim (fun h => by cases h) id
 | k :: r, i, x, H, H', n, h => by
  refine Fo (os := r) ?_
  simp only [fP, aC, az] at h
  have hset : n = ρ.o i ∨ H n = H' n → (H.set (ρ.o i) (some (.obj (ol ρ (1000 * (i + 1)) k x.1)))) n = (H'.set (ρ.o i) (some (.obj (ol ρ (1000 * (i + 1)) k x.1)))) n := fun h => by
   simp only [Heap.set]
   rcases h with h | h
   ·simp [h]
   ·split
    ·rfl
    ·exact h
  rcases h with (h | h | h) | h
  ·exact .inr (iP (.inr (hset (.inl h))))
  ·exact .inr (iP (.inl h))
  ·exact .inl h
  ·exact .inr (iP (.inr (hset (.inr h))))
theorem xb {t : Tmpl} {ρ : Nam} {x : t.Ty} {H : Heap} {n : Nat} (h : n ∉ t.names ρ) : t.H ρ x H n = H n := by
 simp only [Tmpl.names, az, not_or] at h
 unfold Tmpl.H
 rw [jr h.1, CT h.2]
theorem Fp {t : Tmpl} {ρ : Nam} {x : t.Ty} {H H' : Heap} {n : Nat} (h : n ∈ t.names ρ) : t.H ρ x H n = t.H ρ x H' n := by
 simp only [Tmpl.names, az] at h
 unfold Tmpl.H
 rcases h with h | h
 ·exact iP (.inl h)
 ·exact iP (.inr (Fo (.inl h)))
theorem Ko {t : Tmpl} {ρ : Nam} {z : t.Ty} {m : Met} {H : Heap} : t.H ρ z ((dw m.u H).away m) = H.act2 ⟨m.u, m.σ.map (·.2) ++ m.u ++ t.names ρ, t.H ρ z fun _ => none⟩ := by
 funext n
 show _ = if (m.σ.map (·.2) ++ m.u ++ t.names ρ).contains n = true then t.H ρ z (fun _ => none) n else dw m.u H n
 by_cases hn : n ∈ t.names ρ
 ·have c : (m.σ.map (·.2) ++ m.u ++ t.names ρ).contains n = true := by simp [hn]
  rw [if_pos c]
  exact Fp hn
 ·have hB : t.H ρ z (fun _ => none) n = none := xb hn
  rw [xb hn, hB]
  unfold Heap.away
  by_cases hs : n ∈ m.σ.map (·.2)
  ·have c : (m.σ.map (·.2) ++ m.u ++ t.names ρ).contains n = true := by
    simp only [cr, az, hs, true_or, decide_true]
   have c2 : (m.σ.any fun e => e.2 == n) = true := by
    obtain ⟨e, e1, e2⟩ := List.mem_map.1 hs
    exact List.any_eq_true.2 ⟨e, e1, by simpa using e2⟩
   rw [if_pos c, if_pos c2]
  ·have c2 : ¬ (m.σ.any fun e => e.2 == n) = true := fun h => by
    obtain ⟨e, e1, e2⟩ := List.any_eq_true.1 h
    exact hs (List.mem_map.2 ⟨e, e1, by simpa using e2⟩)
   rw [if_neg c2]
   by_cases hu : n ∈ m.u
   ·have c : (m.σ.map (·.2) ++ m.u ++ t.names ρ).contains n = true := by
     simp only [cr, az, hu, or_true, true_or, decide_true]
    rw [if_pos c, jc]
    have : ∀ (u : List Nat) (b : Option Blk), n ∈ u → eV u n b = none := by
     intro u
     induction u with
     | nil => intro b h; cases h
     | cons k u ih =>
      intro b h
      rw [uM]
      by_cases e : n = k
      ·rw [if_pos e]; exact o6 u n
      ·rw [if_neg e]
       rcases aC.1 h with h | h
       ·exact absurd h e
       ·exact ih _ h
    exact this m.u _ hu
   ·have c : ¬ (m.σ.map (·.2) ++ m.u ++ t.names ρ).contains n = true := by
     simp only [cr, az, hs, hu, hn, or_self, decide_false]
     decide
    rw [if_neg c]
structure GrowW (w w' : World) : Prop where
 size : w.heap.size ≤ w'.heap.size
 same : ∀ b, b < w.heap.size → w'.heap[b]? = w.heap[b]?
 os : w'.os = w.os
 tape : w'.tape = w.tape
 output : w'.output = w.output
def In.grow (I : In) (w w' : World) : In := ⟨I.ι, fun b => I.R b ∨ (w.heap.size ≤ b ∧ b < w'.heap.size)⟩
theorem GrowW.refl (w : World) : GrowW w w := ⟨ak _, fun _ _ => rfl, rfl, rfl, rfl⟩
theorem GrowW.trans {w w1 w2 : World} (h : GrowW w w1) (k : GrowW w1 w2) : GrowW w w2 :=
 ⟨aX h.size k.size, fun b hb => (k.same b (bk hb h.size)).trans (h.same b hb), k.os.trans h.os, k.tape.trans h.tape, k.output.trans h.output⟩
theorem A8 (I : In) (w : World) : I.grow w w = I := by
 unfold In.grow
 obtain ⟨ι, R⟩ := I
 congr 1
 funext b
 exact propext ⟨fun h => h.elim id fun h => absurd h.2 (Nat.not_lt.2 h.1), .inl⟩
theorem je {I : In} {w w1 w2 : World} (h : GrowW w w1) (k : GrowW w1 w2) : (I.grow w w1).grow w1 w2 = I.grow w w2 := by
 unfold In.grow
 congr 1
 funext b
 have h1 := h.size
 have h2 := k.size
 refine propext ⟨fun g => ?_, fun g => ?_⟩
 ·rcases g with (g | g) | g
  ·exact .inl g
  ·exact .inr ⟨g.1, by omega⟩
  ·exact .inr ⟨by omega, g.2⟩
 ·rcases g with g | g
  ·exact .inl (.inl g)
  ·rcases am b w1.heap.size with h3 | h3
   ·exact .inl (.inr ⟨g.1, h3⟩)
   ·exact .inr ⟨h3, g.2⟩
theorem GrowW.hr {I : In} {w w' : World} {H : Heap} (g : GrowW w w') (hH : HR I w H) : HR (I.grow w w') w' H ∧ Same I (I.grow w w') w w' := HR.grow hH rfl (fun b => Iff.rfl) g.same g.size
theorem GrowW.ext {w w' : World} (g : GrowW w w') (I : In) : Ext I w (I.grow w w') w' :=
 ⟨fun _ _ h => h, fun _ h => .inl h, fun b hb _ => g.same b hb, fun n e b h hb => .inl ⟨n, e, h, hb⟩, fun b h => h.elim .inl fun h => .inr (.inr h.1), g.size, g.os, g.tape, g.output⟩
def rT (P : Program) (f : FuncId) (S : FS) : Prop := ∀ {I : In} {w : World} {H : Heap} {A : List DV} {args : List Value} {X : S.tin.Ty} {m : Met} {Y : S.R}, HR I w H → LR I w A args → S.tin.pr ⟨[], []⟩ A (fun _ => none) = some (X, m) → S.fn X = some Y →
 Calls P f args.toArray w (rQ fun z w' => GrowW w w' ∧ VR (I.grow w w') w' (gf (S.tout.T dy (S.out Y))) z)
def nD (P : Program) (f : FuncId) (S : FS) : Prop := ∀ {I : In} {w : World} {H : Heap} {A : List DV} {args : List Value} {X : S.tin.Ty} {m : Met} {Y : S.R}, HR I w H → LR I w A args → S.tin.pr ⟨[], []⟩ A H = some (X, m) → S.fn X = some Y →
 Calls P f args.toArray w (rQ fun z w' => GrowW w w' ∧ VR (I.grow w w') w' (gf (S.tout.T dy (S.out Y))) z)
def l9 (P : Program) (g : FuncId) (t : Nat × List (List Int) × List FuncId) : Prop := ∀ {I : In} {w : World} {H : Heap} {A : List DV} {args : List Value}, HR I w H → LR I w A args → A.length = t.1 → A.all wF = true →
 Calls P g args.toArray w (rQ fun z w' => ∃ I', Ext I w I' w' ∧ Rows I I' ∧ HR I' w' H ∧ VR I' w' (.tab t.2.1 (t.2.2.map fun F => .fn (.func F) A [])) z)
theorem uS {cx : Cx} {g : FuncId} {A : List DV} {v : DV} (h : nQ cx g A = some v) : gm cx.P g = true ∧ ∃ t, cx.tabs g = some t ∧ A.length = t.1 ∧ A.all wF = true ∧ v = .tab t.2.1 (t.2.2.map fun F => .fn (.func F) A []) := by
 unfold nQ at h
 split at h
 ·rename_i he
  split at h
  ·rename_i n ks Fs ht
   split at h
   ·rename_i hn
    split at h
    ·rename_i hp
     simp only [aa] at h
     exact ⟨he, _, ht, hn, hp, h.symm⟩
    ·cases h
   ·cases h
  ·cases h
 ·cases h
theorem rU : ∀ {l : List Nat}, kK l = true → l.Nodup
 | [], h => List.nodup_nil
 | a :: r, h => by
  simp only [kK, ai, b9, cr, decide_eq_false_iff_not] at h
  exact bN.2 ⟨h.1, rU h.2⟩
theorem xc {m : Met} {i n : Nat} (hk : (m.σ.map (·.1)).Nodup) (h : (i, n) ∈ m.σ) : m.get i = some n := by
 unfold Met.get
 generalize m.σ = l at hk h
 induction l with
 | nil => cases h
 | cons e r ih =>
  simp only [List.map_cons, bN] at hk
  simp only [List.find?_cons]
  rcases aC.1 h with h1 | h1
  ·subst h1; simp
  ·have : (e.1 == i) = false := by
    rw [aH]
    intro e1
    exact hk.1 (List.mem_map.2 ⟨(i, n), h1, e1.symm⟩)
   rw [this]
   exact ih hk.2 h1
section
variable {α : Type} {cx : Cx} {d : Nat} {ops : Array Oper} {o : Oper} {I : In} {w : World} {T T' : List DV} {H H' : Heap} {a : Act} {v : DV} {act : Act2}
theorem nU {b : Bool} (hT : TR I w T a) (h : hZ ops o T = some b) : Region.wanted o (yielded ops a.tmps) = b := by
 unfold hZ at h
 unfold Region.wanted
 split at h
 ·rename_i hg
  rw [hg]
  simpa using h
 ·rename_i j want hg
  rw [hg]
  split at h
  ·rename_i g hj
   split at h
   ·rename_i b' hb
    have := oY hT hj hb
    simp only [this]
    simp only [aa] at h
    rw [← h]
    cases b' <;> cases want <;> rfl
   ·rename_i hb
    have := oZ hT hj hb
    simp only [this]
    simp only [aa] at h
    rw [← h]
    rfl
   ·cases h
  ·cases h
theorem Hr (hp : ∀ g S, S ∈ cx.specs g → FS.pure S = true → rT cx.P g S) (ht : ∀ g t, cx.tabs g = some t → l9 cx.P g t) (hT : TR I w T a) (hH : HR I w H) (h : w7 cx d ops o T H v act) {K : Act → World → Prop} {Q : Exit → Act → World → Prop}
  (hk : ∀ I' w' u, Ext I w I' w' → HR I' w' (H.act2 act) → TR I' w' (dv (dL act.u T) o.dst v) (a.put o.dst u) → K (a.put o.dst u) w') : if Region.wanted o (yielded ops a.tmps) then o.wp cx.P a w K Q ∨ (o.asks cx.P a w ∧ LetsOut Q) else K (a.put o.dst undef) w := by
 obtain ⟨b, h1, h2⟩ := h
 rw [nU hT h1]
 rcases h2 with ⟨rfl, h2⟩ | ⟨rfl, rfl, rfl⟩
 ·rw [if_pos rfl]
  refine .inl ?_
  rcases h2 with ⟨ac, h2, rfl⟩ | ⟨c, f, g, x, y, S, X, m, Y, k1, k2, k3, k4, k5, k6, k7, k8, rfl, rfl⟩ | ⟨c, f, g, x, y, k1, k2, k3, k4, rfl⟩
  ·obtain ⟨v', act', g1, g2⟩ := Fc hT hH h2
   simp only [aa, ah] at g1
   obtain ⟨rfl, rfl⟩ := g1
   have hu : (Act2.of act').u = [] := by cases act' <;> rfl
   rw [yh, hu] at hk
   exact (g2.goes hT hH).wp hk
  ·obtain ⟨x', y', e1, e2⟩ := iA (c := c) hT k3
   unfold Oper.wp
   rw [jb k1 k2 e1 (kx k4), Oper.upon_enter]
   refine Calls.mono (hp g S k5 k6 hH e2 k7 k8) ?_
   rintro e w' he
   cases e with
   | returned z =>
    obtain ⟨m1, m4⟩ := he
    obtain ⟨m3, hs⟩ := m1.hr hH
    exact hk _ w' z (m1.ext I) m3 ((hT.keep hs).put _ m4)
   | _ => exact he.elim
  ·obtain ⟨x', y', e1, e2⟩ := iA (c := c) hT k3
   obtain ⟨he, t, ht', hl, hpt, rfl⟩ := uS k4
   unfold Oper.wp
   rw [jb k1 k2 e1 (kx he), Oper.upon_enter]
   refine Calls.mono (ht g t ht' hH e2 hl hpt) ?_
   rintro e w' he
   cases e with
   | returned z =>
    obtain ⟨I', m1, m2, m3, m4⟩ := he
    have hs : Same I I' w w' := ⟨m1.keeps hH, m1.obj, m2.row⟩
    exact hk I' w' z m1 m3 ((hT.keep hs).put _ m4)
   | _ => exact he.elim
 ·rw [if_neg (by simp)]
  exact hk I w undef (Ext.refl I w) hH (lK hT o.dst)
theorem A9 (H : Heap) : H.act2 ⟨[], [], fun _ => none⟩ = H := by
 funext m
 rfl
theorem Hs {rd : List Nat} (hq : ∀ g S, S ∈ cx.qs g → nD cx.P g S) (hT : TR I w T a) (hH : HR I w H) (h : t9 cx ops o T H v act rd) {K : Act → World → Prop} {Q : Exit → Act → World → Prop}
  (hk : ∀ I' w' u, Ext I w I' w' → HR I' w' (H.act2 act) → TR I' w' (dv (dL act.u T) o.dst v) (a.put o.dst u) → K (a.put o.dst u) w') : if Region.wanted o (yielded ops a.tmps) then o.wp cx.P a w K Q ∨ (o.asks cx.P a w ∧ LetsOut Q) else K (a.put o.dst undef) w := by
 obtain ⟨h1, c, f, g, x, y, S, X, m, Y, k1, k2, k3, k4, k5, k6, k7, rfl, rfl, k10⟩ := h
 rw [nU hT h1, if_pos rfl]
 refine .inl ?_
 obtain ⟨x', y', e1, e2⟩ := iA (c := c) hT k3
 unfold Oper.wp
 rw [jb k1 k2 e1 (kx k4), Oper.upon_enter]
 refine Calls.mono (hq g S k5 hH e2 k6 k7) ?_
 rintro e w' he
 cases e with
 | returned z =>
  obtain ⟨m1, m4⟩ := he
  obtain ⟨m3, hs⟩ := m1.hr hH
  exact hk _ w' z (m1.ext I) (by rw [A9]; exact m3) ((hT.keep hs).put _ m4)
 | _ => exact he.elim
theorem Ht (hs : ∀ g S, S ∈ cx.specs g → jd cx.P g S) (hT : TR I w T a) (hH : HR I w H) (h : qz cx ops o T H v act) {K : Act → World → Prop} {Q : Exit → Act → World → Prop}
  (hk : ∀ I' w' u, Ext I w I' w' → HR I' w' (H.act2 act) → TR I' w' (dv (dL act.u T) o.dst v) (a.put o.dst u) → K (a.put o.dst u) w') : if Region.wanted o (yielded ops a.tmps) then o.wp cx.P a w K Q ∨ (o.asks cx.P a w ∧ LetsOut Q) else K (a.put o.dst undef) w := by
 obtain ⟨h1, c, f, g, x, y, S, X, m, Y, b, k1, k2, k3, k4, k5, k6, k7, k8, rfl, rfl⟩ := h
 rw [nU hT h1, if_pos rfl]
 refine .inl ?_
 obtain ⟨x', y', e1, e2⟩ := iA (c := c) hT k3
 have hkey := rU (Fi k6)
 have hρ : ∀ i n, (i, n) ∈ m.σ → (kf b m).o i = n := fun i n hin => by
  have hg : m.get i = some n := xc hkey hin
  simp only [kf, hg]
 unfold Oper.wp
 rw [jb k1 k2 e1 (kx k4), Oper.upon_enter]
 refine Calls.mono (hs g S k5 (k := fun v H u => some (v, H, u)) hH e2 k6 hρ (by rw [k7, ab, if_pos k8])) ?_
 rintro e w' he
 cases e with
 | returned z =>
  obtain ⟨I', v', H', u, m1, m2, m3, m4, m5⟩ := he
  simp only [aa, ah] at m1
  obtain ⟨rfl, rfl, rfl⟩ := m1
  rw [Ko] at m3
  exact hk I' w' z m2 m3 ((AX hT hH m2 m5).put _ m4)
 | _ => exact he.elim
theorem Fq {P : Program} {E : TypeId} {s : Sh} {x : DV} {ys : List s.T} {k : List DV → Heap → Option α} (h : d5 P d o E s x ys H (fun v a => some (v, a)) = some (v, act)) : iY P d o E s x ys T H k = k (dv (dL act.u T) o.dst v) (H.act2 act) := by
 have one : ∀ n (b : Blk), ((H.sub n .none).set n (some b)) = H.act2 ⟨[n], [n], fun _ => some b⟩ := fun n b => by
  funext m
  simp only [Heap.set, Heap.act2]
  by_cases e : m = n
  ·simp [e]
  ·simp [e]
   rfl
 cases x
 case rw n =>
  simp only [d5] at h
  simp only [iY]
  split at h
  ·split at h
   ·rename_i hE
    split at h
    ·split at h
     ·rename_i hc
      simp only [aa, ah] at h
      obtain ⟨rfl, rfl⟩ := h
      simp only [hE, if_true, hc, one]
      rfl
     ·cases h
    ·cases h
   ·cases h
  ·cases h
 case sl n z l =>
  simp only [d5] at h
  simp only [iY]
  split at h
  ·split at h
   ·rename_i hz
    split at h
    ·rename_i hE
     split at h
     ·split at h
      ·rename_i hc
       simp only [aa, ah] at h
       obtain ⟨rfl, rfl⟩ := h
       simp only [hz, hE, if_true, hc, one]
       rfl
      ·cases h
     ·cases h
    ·cases h
   ·cases h
  ·cases h
 case sc v' =>
  cases v' with
  | slice ad n c =>
   cases ad with
   | none =>
    simp only [d5] at h
    simp only [iY]
    split at h
    ·rename_i hc
     rw [if_pos hc]
     split at h
     ·rename_i hb
      simp only [aa, ah] at h
      obtain ⟨rfl, rfl⟩ := h
      have hf : kJ H 63 (base d o.dst) = base d o.dst := by
       unfold kJ
       rw [hb]
      unfold f6
      simp only [hf, hb]
      have : H.act (some (base d o.dst, .row E s ys)) = H.act2 ⟨[], [base d o.dst], fun _ => some (.row E s ys)⟩ := (yh H (some (base d o.dst, .row E s ys))).symm
      rw [this]
      rfl
     ·cases h
    ·cases h
   | some ad => simp only [d5] at h; cases h
  | _ => simp only [d5] at h; cases h
 all_goals (simp only [d5] at h; cases h)
theorem Hu (hT : TR I w T a) (hH : HR I w H) (h : w8 cx d ops o T H v act) {K : Act → World → Prop} {Q : Exit → Act → World → Prop}
  (hk : ∀ I' w' u, Ext I w I' w' → HR I' w' (H.act2 act) → TR I' w' (dv (dL act.u T) o.dst v) (a.put o.dst u) → K (a.put o.dst u) w') : if Region.wanted o (yielded ops a.tmps) then o.wp cx.P a w K Q ∨ (o.asks cx.P a w ∧ LetsOut Q) else K (a.put o.dst undef) w := by
 obtain ⟨h1, c, x, y, t, e, s, ys, k1, k2, k3, k4, k5, k6, k7, k8, k9⟩ := h
 rw [nU hT h1, if_pos rfl]
 refine .inl ?_
 have hK : kO cx.P d o T H (fun T' H' => some (T', H')) = some (dv (dL act.u T) o.dst v, H.act2 act) := by
  unfold kO
  simp only [k1, k2, k3, k4, if_true, k5, k6, k7, k8]
  exact Fq k9
 obtain ⟨T', H', g1, g2⟩ := AV hT hH hK
 simp only [aa, ah] at g1
 obtain ⟨rfl, rfl⟩ := g1
 exact g2.wp fun I' w' u he hH' hT' => hk I' w' u he hH' hT'
end
theorem Ba {anc : List Nat} {j i : Nat} : i9 anc j i = true ↔ (anc.getD j 0).testBit i = true := by
 unfold i9
 rw [Nat.testBit_eq_decide_div_mod_eq]
 simp only [aj]
 rw [Nat.beq_eq]
theorem Bb {acc : List Nat} {x : Nat} : ∀ {l : List Edge} {m : Nat}, (tY acc l m).testBit x = true ↔ m.testBit x = true ∨ ∃ e ∈ l, x = e.on ∨ i9 acc e.on x = true
 | [], m => by simp [tY]
 | e :: r, m => by
  simp only [tY, Bb (l := r), Nat.testBit_or, aE, Nat.testBit_two_pow, aj, aC, exists_eq_or_imp, Ba]
  constructor
  ·rintro ((h | h | h) | h)
   ·exact .inl h
   ·exact .inr (.inl (.inl h.symm))
   ·exact .inr (.inl (.inr h))
   ·exact .inr (.inr h)
  ·rintro (h | (h | h) | h)
   ·exact .inl (.inl h)
   ·exact .inl (.inr (.inl h.symm))
   ·exact .inl (.inr (.inr h))
   ·exact .inr h
theorem rV : ∀ {l : List Oper} {i : Nat} {acc anc : List Nat}, rI i l acc = some anc → acc.length = i → (∃ t, anc = acc ++ t) ∧ ∀ n o, l[n]? = some o → (∀ e ∈ o.after.toList, Region.binds .any e = true → e.on < i + n) ∧ ∀ x, i9 anc (i + n) x = true ↔ ∃ e ∈ o.after.toList.filter (Region.binds .any), x = e.on ∨ i9 anc e.on x = true
 | [], i, acc, anc, h, hl => by
  simp only [rI, aa] at h
  subst h
  exact ⟨⟨[], by simp⟩, fun n o h => by simp at h⟩
 | o :: r, i, acc, anc, h, hl => by
  simp only [rI] at h
  split at h
  ·rename_i hall
   obtain ⟨⟨t, ht⟩, h2⟩ := rV h (by simp [hl])
   refine ⟨⟨_, by rw [ht, aL]⟩, fun n o' hn => ?_⟩
   cases n with
   | zero =>
    simp only [bp, aa] at hn
    subst hn
    have hlt : ∀ e ∈ o.after.toList, Region.binds .any e = true → e.on < i := by
     intro e he hb
     simp only [aR, cg, aj] at hall
     exact hall e ⟨he, hb⟩
    refine ⟨fun e he hb => by have := hlt e he hb; omega, fun x => ?_⟩
    have hg : anc.getD (i + 0) 0 = tY acc (o.after.toList.filter (Region.binds .any)) 0 := by
     rw [ht, av, aL, bg (by omega)]
     simp [hl]
    rw [Ba, hg, Bb]
    simp only [Nat.zero_testBit, aD, false_or]
    have same : ∀ e ∈ o.after.toList.filter (Region.binds .any), i9 acc e.on x = i9 anc e.on x := by
     intro e he
     rw [cg] at he
     have := hlt e he.1 he.2
     unfold i9
     simp only [ht, av, aL]
     rw [bc (by omega)]
    constructor
    ·rintro ⟨e, he, h⟩
     exact ⟨e, he, h.imp id fun h => by rw [← same e he]; exact h⟩
    ·rintro ⟨e, he, h⟩
     exact ⟨e, he, h.imp id fun h => by rw [same e he]; exact h⟩
   | succ n =>
    have := h2 n o' (by simpa using hn)
    rw [show i + (n + 1) = i + 1 + n by omega]
    exact this
  ·cases h
section
variable {ops : Array Oper} {anc : List Nat} {listed : Array Bool}
def Fr (ops : Array Oper) (listed : Array Bool) (j : Nat) : Prop := ∀ o, ops[j]? = some o → ∀ e ∈ o.after, Region.binds .any e = true → listed.getD e.on false = true
theorem xd (ha : rI 0 ops.toList [] = some anc) (hc : ∀ j, listed.getD j false = true → Fr ops listed j) : ∀ (n j : Nat), j ≤ n → j < ops.size → Fr ops listed j → ∀ x, i9 anc j x = true → listed.getD x false = true := by
 obtain ⟨_, hs⟩ := rV ha rfl
 intro n
 induction n with
 | zero =>
  intro j hj hlt hA x hx
  obtain ⟨h1, h2⟩ := hs j ops[j] (by simp [hlt])
  rw [show 0 + j = j by omega] at h1 h2
  rw [h2] at hx
  obtain ⟨e, he, hx⟩ := hx
  rw [cg] at he
  have := h1 e he.1 he.2
  omega
 | succ n ih =>
  intro j hj hlt hA x hx
  obtain ⟨h1, h2⟩ := hs j ops[j] (by simp [hlt])
  rw [show 0 + j = j by omega] at h1 h2
  rw [h2] at hx
  obtain ⟨e, he, hx⟩ := hx
  rw [cg] at he
  have hon := h1 e he.1 he.2
  have hl := hA ops[j] (by simp [hlt]) e (Array.mem_toList_iff.1 he.1) he.2
  rcases hx with rfl | hx
  ·exact hl
  ·exact ih e.on (by omega) (by omega) (hc e.on hl) x hx
end
theorem Cw {ops : Array Oper} {anc : List Nat} (h : nP ops anc = true) {i j : Nat} {x y : Oper} (hij : i < j) (hx : ops.toList[i]? = some x) (hy : ops.toList[j]? = some y) : i9 anc j i = true ∨ x.apart ops y = true := by
 rw [cb] at hx hy
 unfold nP at h
 rw [aR] at h
 have h1 := h j (by rw [bf]; exact (Array.getElem?_eq_some_iff.1 hy).1)
 rw [aR] at h1
 have h2 := h1 i (by rw [bf]; exact hij)
 rw [hx, hy] at h2
 simpa using h2
theorem Hv {anc : List Nat} {d j : Nat} {q : Bool} {log : List (Nat × Did)} {x : Did} {ops : Array Oper} (h : qZ ops anc d j q log x = true) {i : Nat} {e : Did} (he : (i, e) ∈ log) (hq : q = true → uF e = true) (hs : i9 anc j i = true ∨ e.o.apart ops x.o = true) : i9 anc j i = true ∨ iN d ops e x = true := by
 rcases hs with hs | hs
 ·exact .inl hs
 ·have two : uF e = true → uF x = true → iN d ops e x = true := fun h1 h2 => by
   unfold uF at h1 h2
   simp only [ai, List.isEmpty_iff] at h1 h2
   unfold iN DX DW
   rw [h1.1, h2.1, h1.2, h2.2, hs]
   rfl
  unfold qZ at h
  simp only [aE, ai] at h
  rcases h with ⟨h1, h2⟩ | h
  ·exact .inr (two (hq h1) h2)
  ·rw [aR] at h
   have := h _ he
   simp only [aE, ai] at this
   rcases this with ⟨h1, h2⟩ | h1 | h1
   ·exact .inr (two h1 h2)
   ·exact .inl h1
   ·refine .inr ?_
    unfold iN
    rw [hs, Bool.and_true]
    exact h1
def ua (cx : Cx) (d : Nat) (ops : Array Oper) (e : Rec) (s : St) : Prop :=
 (w7 cx d ops e.o s.1 s.2 e.v e.act ∧ e.r = fj s.1 e.o) ∨ (qz cx ops e.o s.1 s.2 e.v e.act ∧ e.r = e.act.W) ∨ (w8 cx d ops e.o s.1 s.2 e.v e.act ∧ e.r = fj s.1 e.o ++ e.act.W) ∨ t9 cx ops e.o s.1 s.2 e.v e.act e.r
structure Seg (cx : Cx) (d : Nat) (ops : Array Oper) (anc : List Nat) (m : Nat) (s0 : St) (rs : List Rec) : Prop where
 op : ∀ i e, rs[i]? = some e → ops.toList[m + i]? = some e.o
 st : ∀ i e, rs[i]? = some e → ua cx d ops e (dr (rs.take i) s0)
 fit : ∀ i (e : Rec), rs[i]? = some e → e.Fit ops (dr (rs.take i) s0)
 ap : ∀ i e i' e', i' < i → rs[i']? = some e' → rs[i]? = some e → i9 anc (m + i) (m + i') = true ∨ iN d ops e'.did e.did = true
theorem Seg.nil {cx : Cx} {d : Nat} {ops : Array Oper} {anc : List Nat} {m : Nat} {s0 : St} : Seg cx d ops anc m s0 [] := ⟨fun i e h => by simp at h, fun i e h => by simp at h, fun i e h => by simp at h, fun i e i' e' _ h => by simp at h⟩
def rW (ops : Array Oper) (s : St) (o : Oper) (v : DV) (r : List Nat) (a : Act2) : Rec := ⟨o, v, a, r, Au ops s.1 s.2 o v r a, s.1, s.2⟩
theorem Bc (ops : Array Oper) (s : St) (o : Oper) (v : DV) (r : List Nat) (a : Act2) : (rW ops s o v r a).did = iE ops s.1 s.2 o v r a := rfl
theorem Bd {ops : Array Oper} {s : St} {o : Oper} {v : DV} {r : List Nat} {a : Act2} (h : ∀ n ∈ a.u, n ∈ a.W) : (rW ops s o v r a).Fit ops s := ⟨rfl, rfl, rfl, h⟩
theorem JJ {cx : Cx} {ops : Array Oper} {T : List DV} {H : Heap} {o : Oper} {v : DV} {a : Act2} (h : qz cx ops o T H v a) : ∀ n ∈ a.u, n ∈ a.W := by
 obtain ⟨_, c, f, g, x, y, S, X, m, Y, b, k1, k2, k3, k4, k5, k6, k7, k8, k9, k10⟩ := h
 intro n hn
 rw [k10] at hn ⊢
 simp only [az]
 exact .inl (.inr hn)
theorem Ft {P : Program} {d : Nat} {o : Oper} {E : TypeId} {s : Sh} {x : DV} {ys : List s.T} {H : Heap} {v : DV} {a : Act2} (h : d5 P d o E s x ys H (fun v a => some (v, a)) = some (v, a)) : ∀ n ∈ a.u, n ∈ a.W := by
 cases x
 case rw n =>
  simp only [d5] at h
  split at h
  ·split at h
   ·split at h
    ·split at h
     ·simp only [aa, ah] at h
      obtain ⟨_, rfl⟩ := h
      exact fun n hn => hn
     ·cases h
    ·cases h
   ·cases h
  ·cases h
 case sl n z l =>
  simp only [d5] at h
  split at h
  ·split at h
   ·split at h
    ·split at h
     ·split at h
      ·simp only [aa, ah] at h
       obtain ⟨_, rfl⟩ := h
       exact fun n hn => hn
      ·cases h
     ·cases h
    ·cases h
   ·cases h
  ·cases h
 case sc v' =>
  cases v' with
  | slice ad n c =>
   cases ad with
   | none =>
    simp only [d5] at h
    split at h
    ·split at h
     ·simp only [aa, ah] at h
      obtain ⟨_, rfl⟩ := h
      exact fun n hn => by cases hn
     ·cases h
    ·cases h
   | some ad => simp only [d5] at h; cases h
  | _ => simp only [d5] at h; cases h
 all_goals (simp only [d5] at h; cases h)
theorem Kp (a : fD) : (Act2.of a).u = [] := by cases a <;> rfl
section
variable {α : Type} {cx : Cx} {call : gN α} {d : Nat} {ops : Array Oper} {anc : List Nat} {k : K α} {r : α}
def rX (cx : Cx) (call : gN α) (d : Nat) (ops : Array Oper) (anc : List Nat) (k : K α) (r : α) (q : Nat) (T : List DV) (H : Heap) : Prop :=
 (ops.toList.drop q = [] ∧ k T H = some r) ∨ ∃ o rest, ops.toList.drop q = o :: rest ∧ wG anc ops.size q = true ∧ hZ ops o T = some true ∧
  ((∃ c f g x y, o.op = .call c ∧ c.callee = .value f ∧ dh T f = .fn (.func g) x y ∧ (match (if nB g = true then (x ++ c.args.toList.map (dh T) ++ y, T, H) else jF (x ++ c.args.toList.map (dh T) ++ y) T H) with
   | (A, T, H) => call g A H fun v H u => dJ cx call d ops anc rest (q + 1) true [] (dv (jU T u) o.dst v) H k) = some r) ∨
  (kO cx.P d o T H fun T H => dJ cx call d ops anc rest (q + 1) true [] T H k) = some r)
theorem kT : ∀ {l : List FS} {A : List DV} {k : DV → Option α} {q : Option α}, jn l A k = some q → ∃ S X m, S ∈ l ∧ FS.pure S = true ∧ S.tin.pr ⟨[], []⟩ A (fun _ => none) = some (X, m) ∧ q = (S.fn X).bind fun y => k (gf (S.tout.T dy (S.out y)))
 | [], A, k, q, h => by cases h
 | S :: l, A, k, q, h => by
  simp only [jn] at h
  split at h
  ·rename_i hp
   split at h
   ·rename_i X m hX
    simp only [aa] at h
    exact ⟨S, X, m, by simp, hp, hX, h.symm⟩
   ·obtain ⟨S', X, m, h1, h2⟩ := kT h
    exact ⟨S', X, m, aB _ h1, h2⟩
  ·obtain ⟨S', X, m, h1, h2⟩ := kT h
   exact ⟨S', X, m, aB _ h1, h2⟩
theorem xe : ∀ {l : List FS} {A : List DV} {H : Heap} {b : Nat} {k : DV → Act2 → Option α} {q : Option α}, oq l A H b k = some q → ∃ S X m, S ∈ l ∧ S.tin.pr ⟨[], []⟩ A H = some (X, m) ∧ q = (S.fn X).bind fun y =>
   if S.tout.free (kf b m) ((dw m.u H).away m) = true then k (gf (S.tout.T (kf b m) (S.out y))) ⟨m.u, m.σ.map (·.2) ++ m.u ++ S.tout.names (kf b m), S.tout.H (kf b m) (S.out y) fun _ => none⟩ else none
 | [], A, H, b, k, q, h => by cases h
 | S :: l, A, H, b, k, q, h => by
  simp only [oq] at h
  split at h
  ·rename_i X m hX
   simp only [aa] at h
   exact ⟨S, X, m, by simp, hX, h.symm⟩
  ·obtain ⟨S', X, m, h1, h2⟩ := xe h
   exact ⟨S', X, m, aB _ h1, h2⟩
theorem pb : ∀ {l : List FS} {A : List DV} {H : Heap} {k : DV → List Nat → Option α} {q : Option α}, jG l A H k = some q → ∃ S X m, S ∈ l ∧ S.tin.pr ⟨[], []⟩ A H = some (X, m) ∧ q = (S.fn X).bind fun y => k (gf (S.tout.T dy (S.out y))) (m.σ.map (·.2) ++ m.u)
 | [], A, H, k, q, h => by cases h
 | S :: l, A, H, k, q, h => by
  simp only [jG] at h
  split at h
  ·rename_i X m hX
   simp only [aa] at h
   exact ⟨S, X, m, by simp, hX, h.symm⟩
  ·obtain ⟨S', X, m, h1, h2⟩ := pb h
   exact ⟨S', X, m, aB _ h1, h2⟩
theorem D7 {P : Program} {o : Oper} {c : Call} {T : List DV} {H : Heap} {k : DV → Act2 → Option α} {q : α} (h : tZ P d o c T H k = some q) : ∃ x y t e s ys v a, c.args.toList = [x, y] ∧ c.argTypes.toList = [t, t] ∧ P.underlying t = some (.slice e) ∧ gH P 8 e = some s ∧ jE P e s = true ∧ fc H s (dh T y) = some ys ∧ d5 P d o e s (dh T x) ys H (fun v a => some (v, a)) = some (v, a) ∧ k v a = some q := by
 unfold tZ at h
 split at h
 ·rename_i x y t t' h1 h2
  split at h
  ·rename_i ht
   subst ht
   split at h
   ·rename_i e he
    split at h
    ·rename_i s hs
     split at h
     ·rename_i hz
      split at h
      ·rename_i ys hy
       rw [uQ] at h
       obtain ⟨⟨v, a⟩, ha, hk⟩ := Option.bind_eq_some_iff.1 h
       exact ⟨x, y, t, e, s, ys, v, a, h1, h2, he, hs, hz, hy, ha, hk⟩
      ·cases h
     ·cases h
    ·cases h
   ·cases h
  ·cases h
 ·cases h
theorem Seg.snoc {m : Nat} {s0 : St} {rs : List Rec} (hst : nP ops anc = true) (h : Seg cx d ops anc m s0 rs) {e0 : Rec} (ho : ops.toList[m + rs.length]? = some e0.o) (hs : ua cx d ops e0 (dr rs s0)) (hfit : e0.Fit ops (dr rs s0)) {q : Bool} {log : List (Nat × Did)}
  (hlog : ∀ i e, rs[i]? = some e → (m + i, e.did) ∈ log) (hq : q = true → ∀ e ∈ rs, uF e.did = true)
  (hc : qZ ops anc d (m + rs.length) q log e0.did = true) : Seg cx d ops anc m s0 (rs ++ [e0]) := by
 have old : ∀ {i : Nat} {e : Rec}, (rs ++ [e0])[i]? = some e → (i < rs.length ∧ rs[i]? = some e ∧ (rs ++ [e0]).take i = rs.take i) ∨ (i = rs.length ∧ e = e0 ∧ (rs ++ [e0]).take i = rs) := by
  intro i e hi
  rcases am i rs.length with hl | hl
  ·rw [bc hl] at hi
   exact .inl ⟨hl, hi, by rw [bz (by omega)]⟩
  ·rw [bg hl] at hi
   have hlt := (List.getElem?_eq_some_iff.1 hi).1
   simp only [aS, ck] at hlt
   have : i = rs.length := by omega
   subst this
   simp only [bi, bp, aa] at hi
   exact .inr ⟨rfl, hi.symm, by simp⟩
 refine ⟨fun i e hi => ?_, fun i e hi => ?_, fun i e hi => ?_, fun i e i' e' hlt hi' hi => ?_⟩
 ·rcases old hi with ⟨_, h1, _⟩ | ⟨rfl, rfl, _⟩
  ·exact h.op i e h1
  ·exact ho
 ·rcases old hi with ⟨_, h1, h2⟩ | ⟨rfl, rfl, h2⟩
  ·rw [h2]; exact h.st i e h1
  ·rw [h2]; exact hs
 ·rcases old hi with ⟨_, h1, h2⟩ | ⟨rfl, rfl, h2⟩
  ·rw [h2]; exact h.fit i e h1
  ·rw [h2]; exact hfit
 ·rcases old hi with ⟨hl, h1, h2⟩ | ⟨rfl, rfl, h2⟩
  ·rcases old hi' with ⟨_, h1', _⟩ | ⟨rfl, _, _⟩
   ·exact h.ap i e i' e' hlt h1' h1
   ·omega
  ·rcases old hi' with ⟨_, h1', _⟩ | ⟨rfl, _, _⟩
   ·refine Hv hc (hlog i' e' h1') (fun h0 => hq h0 e' (cv h1')) (Cw hst (by omega) (h.op i' e' h1') ho)
   ·omega
theorem rY {l : List Oper} {q : Nat} {o : Oper} {rest : List Oper} (h : l.drop q = o :: rest) : l[q]? = some o ∧ l.drop (q + 1) = rest := by
 constructor
 ·rw [← List.head?_drop, h]; rfl
 ·rw [← List.tail_drop, h]; rfl
theorem yi (hst : nP ops anc = true) {m : Nat} {s0 : St} : ∀ {l : List Oper} {rs : List Rec} {j : Nat} {q : Bool} {log : List (Nat × Did)}, ops.toList.drop (m + rs.length) = l → j = m + rs.length → (∀ i e, rs[i]? = some e → (m + i, e.did) ∈ log) → (q = true → ∀ e ∈ rs, uF e.did = true) → Seg cx d ops anc m s0 rs → dJ cx call d ops anc l j q log (dr rs s0).1 (dr rs s0).2 k = some r →
  ∃ rs', Seg cx d ops anc m s0 rs' ∧ rX cx call d ops anc k r (m + rs'.length) (dr rs' s0).1 (dr rs' s0).2
 | [], rs, j, q, log, hl, hj, hlog, hq, hs, h => ⟨rs, hs, .inl ⟨hl, h⟩⟩
 | o :: l, rs, j, q, log, hl, hj, hlog, hq, hs, h => by
  subst hj
  obtain ⟨ho, hl2⟩ := rY hl
  have more : ∀ {e0 : Rec} {q' : Bool}, Seg cx d ops anc m s0 (rs ++ [e0]) → (q' = true → q = true ∧ uF e0.did = true) → dJ cx call d ops anc l (m + rs.length + 1) q' ((m + rs.length, e0.did) :: log) (dr (rs ++ [e0]) s0).1 (dr (rs ++ [e0]) s0).2 k = some r → ∃ rs', Seg cx d ops anc m s0 rs' ∧ rX cx call d ops anc k r (m + rs'.length) (dr rs' s0).1 (dr rs' s0).2 := by
   intro e0 q' hseg hq' h
   refine yi hst (l := l) (j := m + rs.length + 1) (rs := rs ++ [e0]) (by simp only [aT, aS, ck]; rw [← hl2]; congr 1) (by simp only [aT, aS, ck]; omega) (log := (m + rs.length, e0.did) :: log) (q := q') (fun i e hi => ?_) (fun h0 e he => ?_) hseg h
   ·rcases am i rs.length with hlt | hge
    ·rw [bc hlt] at hi
     exact aB _ (hlog i e hi)
    ·rw [bg hge] at hi
     have hlt := (List.getElem?_eq_some_iff.1 hi).1
     simp only [aS, ck] at hlt
     have : i = rs.length := by omega
     subst this
     simp only [bi, bp, aa] at hi
     subst hi
     exact aM ..
   ·obtain ⟨h1, h2⟩ := hq' h0
    rcases az.1 he with he | he
    ·exact hq h1 e he
    ·simp only [ax] at he
     subst he
     exact h2
  have next : ∀ {v : DV} {act : fD}, w7 cx d ops o (dr rs s0).1 (dr rs s0).2 v (Act2.of act) → (if qZ ops anc d (m + rs.length) q log (iE ops (dr rs s0).1 (dr rs s0).2 o v (fj (dr rs s0).1 o) (Act2.of act)) = true then
    dJ cx call d ops anc l (m + rs.length + 1) (q && act.isNone) ((m + rs.length, iE ops (dr rs s0).1 (dr rs s0).2 o v (fj (dr rs s0).1 o) (Act2.of act)) :: log) (dv (dr rs s0).1 o.dst v) ((dr rs s0).2.act act) k else none) = some r → ∃ rs', Seg cx d ops anc m s0 rs' ∧ rX cx call d ops anc k r (m + rs'.length) (dr rs' s0).1 (dr rs' s0).2 := by
   intro v act hst1 h
   split at h
   ·rename_i hc
    rw [← Bc] at hc h
    refine more (e0 := rW ops (dr rs s0) o v (fj (dr rs s0).1 o) (Act2.of act)) (q' := q && act.isNone) (hs.snoc hst ho (.inl ⟨hst1, rfl⟩) (Bd (by rw [Kp]; exact fun n hn => by cases hn)) hlog hq hc) (fun h0 => ?_) ?_
    ·simp only [ai] at h0
     refine ⟨h0.1, ?_⟩
     cases act with
     | none => rfl
     | some p => cases h0.2
    ·rw [o8]
     show dJ cx call d ops anc l (m + rs.length + 1) (q && act.isNone) _ (dv (dL (Act2.of act).u (dr rs s0).1) o.dst v) ((dr rs s0).2.act2 (Act2.of act)) k = some r
     rw [yh, Kp]
     exact h
   ·cases h
  have soft : ∀ {v : DV} {rd : List Nat} {act : Act2}, ua cx d ops (rW ops (dr rs s0) o v rd act) (dr rs s0) → (∀ n ∈ act.u, n ∈ act.W) → (if qZ ops anc d (m + rs.length) q log (iE ops (dr rs s0).1 (dr rs s0).2 o v rd act) = true then
    dJ cx call d ops anc l (m + rs.length + 1) false ((m + rs.length, iE ops (dr rs s0).1 (dr rs s0).2 o v rd act) :: log) (dv (dL act.u (dr rs s0).1) o.dst v) ((dr rs s0).2.act2 act) k else none) = some r → ∃ rs', Seg cx d ops anc m s0 rs' ∧ rX cx call d ops anc k r (m + rs'.length) (dr rs' s0).1 (dr rs' s0).2 := by
   intro v rd act hst1 hu h
   split at h
   ·rename_i hc
    rw [← Bc] at hc h
    refine more (e0 := rW ops (dr rs s0) o v rd act) (q' := false) (hs.snoc hst ho hst1 (Bd hu) hlog hq hc) (fun h => by cases h) ?_
    rw [o8]
    exact h
   ·cases h
  have hst0 : dr rs s0 = ((dr rs s0).1, (dr rs s0).2) := rfl
  have hsoft : ∀ {v : DV} {act : Act2}, qz cx ops o (dr rs s0).1 (dr rs s0).2 v act → ua cx d ops (rW ops (dr rs s0) o v act.W act) (dr rs s0) := fun h => .inr (.inl ⟨h, rfl⟩)
  have hsoftA : ∀ {v : DV} {act : Act2}, w8 cx d ops o (dr rs s0).1 (dr rs s0).2 v act → ua cx d ops (rW ops (dr rs s0) o v (fj (dr rs s0).1 o ++ act.W) act) (dr rs s0) := fun h => .inr (.inr (.inl ⟨h, rfl⟩))
  have hsoftQ : ∀ {v : DV} {act : Act2} {rd : List Nat}, t9 cx ops o (dr rs s0).1 (dr rs s0).2 v act rd → ua cx d ops (rW ops (dr rs s0) o v rd act) (dr rs s0) := fun h => .inr (.inr (.inr h))
  generalize hTT : (dr rs s0).1 = T at *
  generalize hHH : (dr rs s0).2 = H at *
  have hrun : hZ ops o T = some true → ∀ {R : Option α}, ya cx call d ops.size anc o (m + rs.length) T H (fun v act => if qZ ops anc d (m + rs.length) q log (iE ops T H o v (fj T o) (Act2.of act)) = true then
    dJ cx call d ops anc l (m + rs.length + 1) (q && act.isNone) ((m + rs.length, iE ops T H o v (fj T o) (Act2.of act)) :: log) (dv T o.dst v) (H.act act) k else none) (fun rd v act => if qZ ops anc d (m + rs.length) q log (iE ops T H o v rd act) = true then
    dJ cx call d ops anc l (m + rs.length + 1) false ((m + rs.length, iE ops T H o v rd act) :: log) (dv (dL act.u T) o.dst v) (H.act2 act) k else none) (fun T H => dJ cx call d ops anc l (m + rs.length + 1) true [] T H k) = some r → ∃ rs', Seg cx d ops anc m s0 rs' ∧ rX cx call d ops anc k r (m + rs'.length) (dr rs' s0).1 (dr rs' s0).2 := by
   intro hw R h
   have plain : (eh cx.P d o T H fun v act => if qZ ops anc d (m + rs.length) q log (iE ops T H o v (fj T o) (Act2.of act)) = true then
    dJ cx call d ops anc l (m + rs.length + 1) (q && act.isNone) ((m + rs.length, iE ops T H o v (fj T o) (Act2.of act)) :: log) (dv T o.dst v) (H.act act) k else none) = some r → ∃ rs', Seg cx d ops anc m s0 rs' ∧ rX cx call d ops anc k r (m + rs'.length) (dr rs' s0).1 (dr rs' s0).2 := by
    intro h
    rw [nC] at h
    obtain ⟨⟨v, act⟩, h1, h2⟩ := Option.bind_eq_some_iff.1 h
    exact next ⟨true, hw, .inl ⟨rfl, .inl ⟨act, h1, rfl⟩⟩⟩ h2
   unfold ya at h
   split at h
   ·rename_i c hoc
    split at h
    ·rename_i f hcf
     split at h
     ·rename_i g x y hf
      split at h
      ·rename_i v hv
       exact next (act := none) ⟨true, hw, .inl ⟨rfl, .inr (.inr ⟨c, f, g, x, y, hoc, hcf, hf, hv, rfl⟩)⟩⟩ h
      split at h
      ·rename_i q hq
       split at hq
       ·rename_i hent
        obtain ⟨S, X, mm, h1, h2, h3, rfl⟩ := kT hq
        obtain ⟨Y, h4, h5⟩ := Option.bind_eq_some_iff.1 h
        exact next (act := none) ⟨true, hw, .inl ⟨rfl, .inr (.inl ⟨c, f, g, x, y, S, X, mm, Y, hoc, hcf, hf, hent, h1, h2, h3, h4, rfl, rfl⟩)⟩⟩ h5
       ·cases hq
      split at h
      ·rename_i q hq
       split at hq
       ·rename_i hent
        obtain ⟨S, X, mm, h1, h2, rfl⟩ := pb hq
        obtain ⟨Y, h4, h5⟩ := Option.bind_eq_some_iff.1 h
        have hQ : t9 cx ops o T H _ _ _ := ⟨hw, c, f, g, x, y, S, X, mm, Y, hoc, hcf, hf, hent, h1, h2, h4, rfl, rfl, rfl⟩
        exact soft (hsoftQ hQ) (fun n hn => by cases hn) h5
       ·cases hq
      ·split at h
       ·rename_i hb
        exact ⟨rs, hs, .inr ⟨o, l, hl, hb, by rw [hTT]; exact hw, .inl ⟨c, f, g, x, y, hoc, hcf, by rw [hTT]; exact hf, by rw [hTT, hHH]; exact h⟩⟩⟩
       ·split at h
        ·rename_i q hq
         split at hq
         ·rename_i hent
          obtain ⟨S, X, mm, h1, h2, rfl⟩ := xe hq
          obtain ⟨Y, h4, h5⟩ := Option.bind_eq_some_iff.1 h
          split at h5
          ·rename_i hfree
           have hS : qz cx ops o T H _ _ := ⟨hw, c, f, g, x, y, S, X, mm, Y, _, hoc, hcf, hf, hent, h1, h2, h4, hfree, rfl, rfl⟩
           exact soft (hsoft hS) (JJ hS) h5
          ·cases h5
         ·cases hq
        ·cases h
     ·cases h
    ·rename_i hcf
     split at h
     ·rename_i hb
      exact ⟨rs, hs, .inr ⟨o, l, hl, hb, by rw [hTT]; exact hw, .inr (by rw [hTT, hHH]; exact h)⟩⟩
     ·obtain ⟨x, y, t, e, s, ys, v, a, q1, q2, q3, q4, q5, q6, q7, q8⟩ := D7 h
      exact soft (hsoftA ⟨hw, c, x, y, t, e, s, ys, hoc, hcf, q1, q2, q3, q4, q5, q6, q7⟩) (Ft q7) q8
    ·exact plain h
   ·rename_i q x y ho'
    split at h
    ·rename_i hb
     simp only [ai] at hb
     exact ⟨rs, hs, .inr ⟨o, l, hl, hb.2, by rw [hTT]; exact hw, .inr (by rw [hTT, hHH]; exact h)⟩⟩
    ·exact plain h
   ·exact plain h
  unfold dJ at h
  simp only at h
  split at h
  ·rename_i hg
   exact hrun (by simp [hZ, hg]) (R := some r) h
  ·rename_i j want hg
   split at h
   ·rename_i g hj
    split at h
    ·rename_i b hb
     have hfix : T.set g (.sc (.bool b)) = T := wR hb (by simp)
     have hw : hZ ops o T = some (b == want) := by unfold hZ; rw [hg]; simp only [hj, hb]
     cases b with
     | true =>
      rw [hfix] at h
      cases want with
      | true => exact hrun hw (R := some r) h
      | false => exact next (act := none) ⟨false, hw, .inr ⟨rfl, rfl, rfl⟩⟩ h
     | false =>
      rw [hfix] at h
      cases want with
      | true => exact next (act := none) ⟨false, hw, .inr ⟨rfl, rfl, rfl⟩⟩ h
      | false => exact hrun hw (R := some r) h
    ·rename_i hb
     have hw : hZ ops o T = some false := by unfold hZ; rw [hg]; simp only [hj, hb]
     exact next (act := none) ⟨false, hw, .inr ⟨rfl, rfl, rfl⟩⟩ h
    ·cases h
   ·cases h
end
def gC (S : Nat → Bool) : Nat → Nat
 | 0 => 0
 | n + 1 => gC S n + (if S n then 0 else 1)
theorem y0 {S S' : Nat → Bool} : ∀ {n : Nat}, (∀ i, i < n → S i = S' i) → gC S n = gC S' n
 | 0, _ => rfl
 | n + 1, h => by simp only [gC]; rw [y0 (fun i hi => h i (by omega)), h n (by omega)]
theorem CU {S : Nat → Bool} {j : Nat} (hj : S j = false) : ∀ {n : Nat}, j < n → gC (fun i => S i || i == j) n + 1 = gC S n
 | 0, h => by omega
 | n + 1, h => by
  simp only [gC]
  rcases am j n with h1 | h1
  ·have := CU hj h1
   have hne : (n == j) = false := by rw [aH]; omega
   simp only [hne, aZ]
   omega
  ·have : n = j := by omega
   subst this
   rw [y0 (S := fun i => S i || i == n) (S' := S) (fun i hi => by
    have hne : (i == n) = false := by rw [aH]; omega
    simp only [hne, aZ])]
   simp [hj]
theorem nV {S : Nat → Bool} : ∀ {n : Nat}, gC S n = 0 → ∀ i, i < n → S i = true
 | n + 1, h, i, hi => by
  simp only [gC] at h
  rcases am i n with h1 | h1
  ·exact nV (by omega) i h1
  ·have : i = n := by omega
   subst this
   cases hS : S i with
   | true => rfl
   | false => rw [hS] at h; simp at h
theorem Be {S : Nat → Bool} (h : ∀ i, S i = false) : ∀ n, gC S n = n
 | 0 => rfl
 | n + 1 => by simp only [gC, Be h n, h n]; rfl
theorem rZ {S : Nat → Bool} : ∀ {l : List Rec} {m : Nat} {s : St}, (∀ i, m ≤ i → S i = false) → eZ m S l s = s
 | [], _, _, _ => rfl
 | e :: r, m, s, h => by
  simp only [eZ, h m (ak _), aD, au]
  exact rZ (fun i hi => h i (by omega))
abbrev gj (listed : Array Bool) : Nat → Bool := fun i => listed.getD i false
theorem JK {listed : Array Bool} {j : Nat} (h : j < listed.size) : gj (listed.setIfInBounds j true) = fun i => gj listed i || i == j := by
 funext i
 simp only [gj, bP, Array.getElem?_setIfInBounds]
 by_cases e : j = i
 ·subst e; simp [h]
 ·have : (i == j) = false := by rw [aH]; exact fun e' => e e'.symm
  simp [e, this]
theorem vl {listed : Array Bool} {j : Nat} (h : j < listed.size) : listed.getD j true = gj listed j := by
 simp [gj, h]
section
variable {α : Type} {cx : Cx} {call : gN α} {d : Nat} {ops : Array Oper} {anc : List Nat} {k : K α} {r : α} {Q : Exit → Act → World → Prop}
theorem Hw (hcall : qv cx.P call) (hsp : ∀ g S, S ∈ cx.specs g → jd cx.P g S) (hp : ∀ g S, S ∈ cx.specs g → FS.pure S = true → rT cx.P g S) (htab : ∀ g t, cx.tabs g = some t → l9 cx.P g t) (hqs : ∀ g S, S ∈ cx.qs g → nD cx.P g S) (ha : rI 0 ops.toList [] = some anc) (hstat : nP ops anc = true) : ∀ (fuel : Nat) {listed : Array Bool} {m : Nat} {s0 : St} {rs : List Rec} {I : In} {w : World} {a : Act},
  listed.size = ops.size → gC (gj listed) ops.size = fuel → (∀ j, gj listed j = true → Fr ops listed j) → (∀ i, i < m → gj listed i = true) → (∀ i, m + rs.length ≤ i → gj listed i = false) → Seg cx d ops anc m s0 rs → rX cx call d ops anc k r (m + rs.length) (dr rs s0).1 (dr rs s0).2 →
  TR I w (eZ m (gj listed) rs s0).1 a → HR I w (eZ m (gj listed) rs s0).2 → (∀ I' w' T' H' a', Ext I w I' w' → HR I' w' H' → TR I' w' T' a' → k T' H' = some r → Q .normal a' w') → wpAny cx.P .any ops Q fuel listed a w := by
 intro fuel
 have done : ∀ {listed : Array Bool} {m : Nat} {s0 : St} {rs : List Rec} {I : In} {w : World} {a : Act}, listed.size = ops.size → (∀ i, i < ops.size → gj listed i = true) → (∀ i, m + rs.length ≤ i → gj listed i = false) → rX cx call d ops anc k r (m + rs.length) (dr rs s0).1 (dr rs s0).2 → Seg cx d ops anc m s0 rs →
   TR I w (eZ m (gj listed) rs s0).1 a → HR I w (eZ m (gj listed) rs s0).2 → (∀ I' w' T' H' a', Ext I w I' w' → HR I' w' H' → TR I' w' T' a' → k T' H' = some r → Q .normal a' w') → Q .normal a w := by
  intro listed m s0 rs I w a hsz hall hpost ht hs hT hH hQ
  have hacc : eZ m (gj listed) rs s0 = dr rs s0 := vk fun i hi => by
   have := hs.op i rs[i] (aF hi)
   have := (List.getElem?_eq_some_iff.1 this).1
   exact hall (m + i) (by simpa using this)
  rw [hacc] at hT hH
  rcases ht with ⟨_, h⟩ | ⟨o, rest, h, _⟩
  ·exact hQ I w _ _ a (Ext.refl I w) hH hT h
  ·obtain ⟨h1, _⟩ := rY h
   have h2 := (List.getElem?_eq_some_iff.1 h1).1
   have h3 := hall (m + rs.length) (by simpa using h2)
   rw [hpost _ (ak _)] at h3
   cases h3
 have allOf : ∀ {listed : Array Bool}, listed.size = ops.size → Region.ready .any ops listed = [] → ∀ i, i < ops.size → gj listed i = true := by
  intro listed hsz hr
  intro i
  induction i using Nat.strongRecOn with
  | _ i ih =>
   intro hi
   cases hS : gj listed i with
   | true => rfl
   | false =>
    obtain ⟨_, hsp⟩ := rV ha rfl
    obtain ⟨h1, _⟩ := hsp i ops[i] (by simp [hi])
    have : i ∈ Region.ready .any ops listed := by
     rw [mem_ready]
     refine ⟨by rw [vl (by omega)]; exact hS, ops[i], by simp [hi], fun e he hb => ?_⟩
     have := h1 e (Array.mem_toList_iff.2 he) hb
     exact ih e.on (by omega) (by omega)
    rw [hr] at this
    cases this
 induction fuel with
 | zero =>
  intro listed m s0 rs I w a hsz hcnt hcl hpre hpost hs ht hT hH hQ
  have hall := nV hcnt
  refine ⟨?_, done hsz hall hpost ht hs hT hH hQ⟩
  rw [List.eq_nil_iff_forall_not_mem]
  intro i hi
  rw [mem_ready] at hi
  obtain ⟨h1, o, ho, _⟩ := hi
  have := (Array.getElem?_eq_some_iff.1 ho).1
  rw [vl (by omega), hall i this] at h1
  cases h1
 | succ fuel ih =>
  intro listed m s0 rs I w a hsz hcnt hcl hpre hpost hs ht hT hH hQ
  refine ⟨fun hr => done hsz (allOf hsz hr) hpost ht hs hT hH hQ, fun i hi => ?_⟩
  rw [mem_ready] at hi
  obtain ⟨hun, o, ho, haft⟩ := hi
  have hlt := (Array.getElem?_eq_some_iff.1 ho).1
  rw [vl (by omega)] at hun
  have hA : Fr ops listed i := fun o' ho' e he hb => by
   rw [ho] at ho'
   simp only [aa] at ho'
   subst ho'
   exact haft e he hb
  have hanc := xd ha hcl i i (ak _) hlt hA
  have hset := JK (listed := listed) (j := i) (by omega)
  have hcl' : ∀ j, gj (listed.setIfInBounds i true) j = true → Fr ops (listed.setIfInBounds i true) j := by
   intro j hj o' ho' e he hb
   rw [hset] at hj
   simp only [aE, ae] at hj
   rcases hj with hj | rfl
   ·exact getD_set_true (hcl j hj o' ho' e he hb)
   ·exact getD_set_true (hA o' ho' e he hb)
  have hcnt' : gC (gj (listed.setIfInBounds i true)) ops.size = fuel := by
   have := CU hun hlt
   rw [hset]
   omega
  have him : m ≤ i := by
   rcases am i m with h | h
   ·rw [hpre i h] at hun; cases hun
   ·exact h
  rcases am i (m + rs.length) with hiq | hiq
  ·obtain ⟨j, rfl⟩ : ∃ j, i = m + j := ⟨i - m, by omega⟩
   have hj : j < rs.length := by omega
   have hje : rs[j]? = some rs[j] := aF hj
   generalize rs[j] = e at hje
   have heo : e.o = o := by
    have := hs.op j e hje
    simp only [cb] at this
    rw [ho] at this
    simpa using this.symm
   have hap1 : ∀ i f, i < j → rs[i]? = some f → gj listed (m + i) = false → iN d ops f.did e.did = true := fun i f hi hf hu => by
    rcases hs.ap j e i f hi hf hje with h | h
    ·rw [show gj listed (m + i) = true from hanc _ h] at hu; cases hu
    ·exact h
   have hap2 : ∀ k f, j < k → rs[k]? = some f → gj listed (m + k) = true → iN d ops e.did f.did = true := fun k f hk hf hl => by
    rcases hs.ap k f j e hk hje hf with h | h
    ·have hkl : m + k < ops.size := by
      have := (List.getElem?_eq_some_iff.1 (hs.op k f hf)).1
      simpa using this
     have := xd ha hcl (m + k) (m + k) (ak _) hkl (hcl _ hl) _ h
     rw [show gj listed (m + j) = true from this] at hun
     cases hun
    ·exact h
   have hfe := hs.fit j e hje
   have hagr := Hn (L := e.o.looksAt ops) (N := fun n => n ∈ e.r ∨ gt d e.o n = true) (s := s0) hje hun (fun i f h1 h2 h3 => Hq (hs.fit i f h2) (hap1 i f h1 h2 h3)) (fun k f h1 h2 h3 => Fm hfe (hs.fit k f h2) (hap2 k f h1 h2 h3))
   have hput := Hm (s := s0) hje hun (fun k f h1 h2 h3 => Kn hfe (hs.fit k f h2) (hap2 k f h1 h2 h3))
   rw [← hset] at hput
   have fin : ∀ {K : Act → World → Prop}, (∀ I' w' u, Ext I w I' w' → HR I' w' ((eZ m (gj listed) rs s0).2.act2 e.act) → TR I' w' (dv (dL e.act.u (eZ m (gj listed) rs s0).1) e.o.dst e.v) (a.put e.o.dst u) → K (a.put e.o.dst u) w') → if Region.wanted e.o (yielded ops a.tmps) then e.o.wp cx.P a w K Q ∨ (e.o.asks cx.P a w ∧ LetsOut Q) else K (a.put e.o.dst undef) w := by
    intro K hk
    rcases hs.st j e hje with ⟨hst, hr⟩ | ⟨hst, hr⟩ | ⟨hst, hr⟩ | hst
    ·rw [hr] at hagr
     exact Hr hp htab hT hH (Fg hagr hst) hk
    ·exact Ht hsp hT hH (Fj ⟨hagr.1, hagr.2.1, fun n hn => hagr.2.2 n (.inl (by rw [hr]; exact hn))⟩ hst) hk
    ·exact Hu hT hH (Fl ⟨hagr.1, hagr.2.1, fun n hn => hagr.2.2 n (.inl (by rw [hr]; exact hn))⟩ hst) hk
    ·exact Hs hqs hT hH (Fk ⟨hagr.1, hagr.2.1, fun n hn => hagr.2.2 n (.inl hn)⟩ hst) hk
   unfold wpOp
   rw [ho]
   simp only
   rw [← heo]
   refine fin fun I' w' u he hH' hT' => ?_
   refine ih (m := m) (s0 := s0) (rs := rs) (I := I') (by simpa using hsz) hcnt' hcl' (fun i hi => ?_) (fun i hi => ?_) hs ht (by rw [hput]; exact hT') (by rw [hput]; exact hH') (fun I2 w2 T2 H2 a2 he2 => hQ I2 w2 T2 H2 a2 (he.trans he2))
   ·rw [hset]
    simp only [aE]
    exact .inl (hpre i hi)
   ·rw [hset]
    simp only [bw, aH]
    exact ⟨hpost i hi, by omega⟩
  ·rcases ht with ⟨h0, _⟩ | ⟨o', rest, h0, hbar, hw, hgo⟩
   ·have := congrArg List.length h0
    simp at this
    omega
   ·obtain ⟨h1, h2⟩ := rY h0
    unfold wG at hbar
    simp only [ai, aR, bf, aE, aj] at hbar
    have hiq' : i = m + rs.length := by
     rcases am (m + rs.length) i with h | h
     ·rcases hbar.2 i hlt with h' | h'
      ·omega
      ·have := hanc _ h'
       rw [show listed.getD (m + rs.length) false = false from hpost _ (ak _)] at this
       cases this
     ·omega
    subst hiq'
    have hoo : o' = o := by
     rw [cb, ho] at h1
     simpa using h1.symm
    subst hoo
    have hacc : eZ m (gj listed) rs s0 = dr rs s0 := vk fun i hi => hanc _ (hbar.1 (m + i) (by omega))
    rw [hacc] at hT hH
    have next : ∀ {I' : In} {w' : World} {T' : List DV} {H' : Heap} {a' : Act}, Ext I w I' w' → HR I' w' H' → TR I' w' T' a' → dJ cx call d ops anc rest (m + rs.length + 1) true [] T' H' k = some r → wpAny cx.P .any ops Q fuel (listed.setIfInBounds (m + rs.length) true) a' w' := by
     intro I' w' T' H' a' he hH' hT' hev
     obtain ⟨rs', hs', ht'⟩ := yi hstat (m := m + rs.length + 1) (s0 := (T', H')) (rs := []) (by simpa using h2) rfl (fun i e h => by simp at h) (fun _ e h => by simp at h) Seg.nil hev
     have hnone : ∀ i, m + rs.length + 1 ≤ i → gj (listed.setIfInBounds (m + rs.length) true) i = false := by
      intro i hi
      rw [hset]
      simp only [bw, aH]
      exact ⟨hpost i (by omega), by omega⟩
     have h0 : eZ (m + rs.length + 1) (gj (listed.setIfInBounds (m + rs.length) true)) rs' (T', H') = (T', H') := rZ hnone
     refine ih (m := m + rs.length + 1) (s0 := (T', H')) (rs := rs') (I := I') (by simpa using hsz) hcnt' hcl' (fun i hi => ?_) (fun i hi => hnone i (by omega)) hs' ht' (by rw [h0]; exact hT') (by rw [h0]; exact hH') (fun I2 w2 T2 H2 a2 he2 => hQ I2 w2 T2 H2 a2 (he.trans he2))
     rw [hset]
     simp only [aE, ae]
     rcases am i (m + rs.length) with h | h
     ·exact .inl (hanc _ (hbar.1 i h))
     ·exact .inr (by omega)
    unfold wpOp
    rw [ho]
    simp only
    rw [nU hT hw, if_pos rfl]
    refine .inl ?_
    rcases hgo with ⟨c, f, g, x, y, k1, k2, k3, k4⟩ | hgo
    ·exact AY hcall (sp := nB g) (k := fun T H => dJ cx call d ops anc rest (m + rs.length + 1) true [] T H k) hT hH k1 k2 k3 k4 fun I' w' T' H' u he hH' hT' h' => next he hH' hT' h'
    ·obtain ⟨T', H', h1, h2⟩ := AV hT hH hgo
     exact h2.wp fun I' w' u he hH' hT' => next he hH' hT' h1
theorem Same.world {I : In} {w w' : World} (h : w'.heap = w.heap) : Same I I w w' := ⟨⟨fun _ h => h, fun b _ => by rw [h]⟩, fun _ _ h => h, fun _ _ _ h => h⟩
theorem HR.world {I : In} {w w' : World} {H : Heap} (h : w'.heap = w.heap) (hH : HR I w H) : HR I w' H :=
 HR.of (fun n b hb => (hH.br hb).keep (Same.world h) (fun e g _ _ => by rw [h])) hH.dom (fun n e b h1 h2 => by rw [h]; exact hH.lt n e b h1 h2) hH.inj (fun b hb => by rw [h]; exact hH.rlt b hb)
theorem Fu (hcall : qv cx.P call) (hsp : ∀ g S, S ∈ cx.specs g → jd cx.P g S) (hp : ∀ g S, S ∈ cx.specs g → FS.pure S = true → rT cx.P g S) (htab : ∀ g t, cx.tabs g = some t → l9 cx.P g t) (hqs : ∀ g S, S ∈ cx.qs g → nD cx.P g S) (hf : cx.P.follows .mixedOrders = true) (ha : rI 0 ops.toList [] = some anc) (hstat : nP ops anc = true) {I : In} {w : World} {T : List DV} {a : Act} {H : Heap} {id : Nat} (hT : TR I w T a) (hH : HR I w H) (h : dJ cx call d ops anc ops.toList 0 true [] T H k = some r)
  (hQ : ∀ I' w' T' H' a', Ext I w I' w' → HR I' w' H' → TR I' w' T' a' → k T' H' = some r → Q .normal a' w') : (Code.region id ops true).wp cx.P Q a w := by
 refine wp_region_any hf ?_
 obtain ⟨rs', hs', ht'⟩ := yi hstat (m := 0) (s0 := (T, H)) (rs := []) (by simp) rfl (fun i e h => by simp at h) (fun _ e h => by simp at h) Seg.nil h
 have hn : ∀ i, gj (Array.replicate ops.size false) i = false := by
  intro i
  simp only [gj, bP, Array.getElem?_replicate]
  split <;> rfl
 have h0 : eZ 0 (gj (Array.replicate ops.size false)) rs' (T, H) = (T, H) := rZ fun i _ => hn i
 refine Hw hcall hsp hp htab hqs ha hstat ops.size (m := 0) (s0 := (T, H)) (rs := rs') (I := I) (by simp) (Be hn _) (fun j hj => by rw [hn j] at hj; cases hj) (fun i hi => by omega) (fun i _ => hn i) hs' ht' ?_ ?_ ?_
 ·rw [h0]; exact TR.keep (w := w) (Same.world (w := w) rfl) hT
 ·rw [h0]; exact HR.world (w := w) rfl hH
 ·intro I' w' T' H' a' he
  exact hQ I' w' T' H' a' ⟨he.obj, he.ro, he.same, he.own, he.newR, he.size, he.os, he.tape, he.output⟩
end
def Pb : Ex → Exit → Prop
 | .norm, .normal => True
 | .exit i, .exit j => i = j
 | .goto i, .goto j => i = j
 | .ret, .ret => True
 | _, _ => False
section
variable {α : Type} {P : Program} {I : In} {w : World} {T : List DV} {a : Act} {H : Heap}
def PostC (I : In) (w : World) (k : Ex → List DV → Heap → Option α) (r : α) : Exit → Act → World → Prop := fun e a' w' => ∃ I' T' H' x, Pb x e ∧ Ext I w I' w' ∧ HR I' w' H' ∧ TR I' w' T' a' ∧ k x T' H' = some r
theorem PostC.ext {I I1 : In} {w w1 : World} {k : Ex → List DV → Heap → Option α} {r : α} (h : Ext I w I1 w1) {e : Exit} {a' : Act} {w' : World} (hp : PostC I1 w1 k r e a' w') : PostC I w k r e a' w' := by
 obtain ⟨I', T', H', x, h1, h2, h3⟩ := hp
 exact ⟨I', T', H', x, h1, h.trans h2, h3⟩
def LoopOk (P : Program) (L : Loop) (c : Code) : Prop := ∀ {α : Type} {I : In} {w : World} {T : List DV} {a : Act} {H : Heap} {b : Nat} {k : Ex → List DV → Heap → Option α} {r : α}, TR I w T a → HR I w H → ot L b T H k = some r → c.wp P (PostC I w k r) a w
theorem xf {L : Loop} {c : Code} (h : ∀ {α : Type} {I : In} {w : World} {T : List DV} {a : Act} {H : Heap} {b : Nat} {k : Ex → List DV → Heap → Option α} {r : α}, TR I w T a → HR I w H → rJ L b T H k = some r → c.wp P (PostC I w k r) a w) : LoopOk P L c := by
 intro α I w T a H b k r hT hH hk
 unfold ot at hk
 split at hk
 rename_i A T1 H1 hs
 obtain ⟨I1, g1, g2, g3, _⟩ := ja hH hT .nil hs
 exact Code.wp_mono (fun e a' w' hp => PostC.ext g2 hp) (h g3 g1 hk)
def ey : Code → List (Nat × Code)
 | .seq a b => (Pa b, a) :: (ey a ++ ey b)
 | .cond _ a b => ey a ++ ey b
 | .block _ c => ey c
 | .loop c => (gh c, .loop c) :: ey c
 | .scope c => ey c
 | _ => []
structure Good (cx : Cx) : Prop where
 specs : ∀ f S, S ∈ cx.specs f → jd cx.P f S
 loops : ∀ f id L, cx.loops f id = some L → ∀ fn c c', cx.P.funcs[f]? = some fn → fn.body = some c → (id, c') ∈ ey c → LoopOk cx.P L c'
 pures : ∀ f S, S ∈ cx.specs f → FS.pure S = true → rT cx.P f S
 tabs : ∀ f t, cx.tabs f = some t → l9 cx.P f t
 qs : ∀ f S, S ∈ cx.qs f → nD cx.P f S
theorem r4 {c : Code} {Q : Exit → Act → World → Prop} {a : Act} {w : World} {n : Nat} (Inv : Nat → Act → World → Prop) (h0 : Inv n a w) (hz : ∀ a w, ¬ Inv 0 a w) (hs : ∀ n a w, Inv (n + 1) a w → c.wp P (Exit.then (Inv n) Q) a w) : (Code.loop c).wp P Q a w := by
 have least : ∀ (p : Nat → Prop) (n : Nat), p n → ∃ m, p m ∧ ∀ k, p k → m ≤ k := by
  intro p n
  induction n using Nat.strongRecOn with
  | _ n ih =>
   intro hn
   by_cases h : ∃ m, m < n ∧ p m
   ·obtain ⟨m, h1, h2⟩ := h
    exact ih m h1 h2
   ·refine ⟨n, hn, fun k hk => ?_⟩
    rcases am k n with h1 | h1
    ·exact absurd ⟨k, h1, hk⟩ h
    ·exact h1
 have hμ : ∀ p : Act × World, ∃ m : Nat, (∃ n, Inv n p.1 p.2) → Inv m p.1 p.2 ∧ ∀ k, Inv k p.1 p.2 → m ≤ k := by
  intro p
  by_cases h : ∃ n, Inv n p.1 p.2
  ·obtain ⟨n, hn⟩ := h
   obtain ⟨m, h1, h2⟩ := least (fun n => Inv n p.1 p.2) n hn
   exact ⟨m, fun _ => ⟨h1, h2⟩⟩
  ·exact ⟨0, fun h' => absurd h' h⟩
 obtain ⟨μ, hμ⟩ := Classical.axiomOfChoice hμ
 refine wp_loop (fun a w => ∃ n, Inv n a w) (fun a w => μ (a, w)) ⟨n, h0⟩ ?_
 intro a w h
 obtain ⟨hf, _⟩ := hμ (a, w) h
 show c.wp P (Exit.then (fun a' w' => (∃ n, Inv n a' w') ∧ μ (a', w') < μ (a, w)) Q) a w
 generalize μ (a, w) = m at hf
 cases m with
 | zero => exact absurd hf (hz a w)
 | succ m =>
  refine Code.wp_mono ?_ (hs m a w hf)
  intro e a' w' he
  cases e with
  | normal => exact ⟨⟨m, he⟩, Nat.lt_succ_of_le ((hμ (a', w') ⟨m, he⟩).2 m he)⟩
  | _ => exact he
theorem qA {c : Operand} {t : Bool} (h : dh T c = .sc (.bool t)) : AL c t T = T := by
 cases c with
 | tmp i => exact wR h (by simp)
 | _ => rfl
variable {cx : Cx} {call : gN α}
theorem za {c : Code} {body : List DV → Heap → (Ex → List DV → Heap → Option α) → Option α} (hb : ∀ {I : In} {w : World} {T : List DV} {a : Act} {H : Heap} {k : Ex → List DV → Heap → Option α} {r : α}, TR I w T a → HR I w H → body T H k = some r → c.wp P (PostC I w k r) a w) {n : Nat} {k : Ex → List DV → Heap → Option α} {r : α} (hT : TR I w T a) (hH : HR I w H) (h : kP body n T H k = some r) : (Code.loop c).wp P (PostC I w k r) a w := by
 refine r4 (n := n) (fun n a' w' => ∃ I' T' H', Ext I w I' w' ∧ HR I' w' H' ∧ TR I' w' T' a' ∧ kP body n T' H' k = some r) ⟨I, T, H, Ext.refl I w, hH, hT, h⟩ ?_ ?_
 ·rintro a w ⟨I', T', H', _, _, _, h⟩
  cases h
 ·rintro n a1 w1 ⟨I1, T1, H1, he, hH1, hT1, h1⟩
  simp only [kP] at h1
  refine Code.wp_mono ?_ (hb hT1 hH1 h1)
  rintro e a2 w2 ⟨I2, T2, H2, x, hx, he2, hH2, hT2, h2⟩
  cases e <;> cases x <;> first | exact hx.elim | skip
  ·exact ⟨I2, T2, H2, he.trans he2, hH2, hT2, h2⟩
  ·exact ⟨I2, T2, H2, _, hx, he.trans he2, hH2, hT2, h2⟩
  ·exact ⟨I2, T2, H2, _, hx, he.trans he2, hH2, hT2, h2⟩
  ·exact ⟨I2, T2, H2, _, hx, he.trans he2, hH2, hT2, h2⟩
theorem r5 (hg : Good cx) (hcall : qv cx.P call) {f d : Nat} : ∀ (c : Code), (∀ id L, cx.loops f id = some L → ∀ c', (id, c') ∈ ey c → LoopOk cx.P L c') → ∀ {I : In} {w : World} {T : List DV} {a : Act} {H : Heap} {k : Ex → List DV → Heap → Option α} {r : α}, TR I w T a → HR I w H → dO cx call f d c T H k = some r → c.wp cx.P (PostC I w k r) a w := by
 intro c
 induction c with
 | skip => intro hl I w T a H k r hT hH h; exact wp_skip ⟨I, T, H, .norm, trivial, Ext.refl I w, hH, hT, h⟩
 | label l => intro hl I w T a H k r hT hH h; exact wp_label ⟨I, T, H, .norm, trivial, Ext.refl I w, hH, hT, h⟩
 | exit id => intro hl I w T a H k r hT hH h; exact wp_exit ⟨I, T, H, .exit id, rfl, Ext.refl I w, hH, hT, h⟩
 | goto l => intro hl I w T a H k r hT hH h; exact wp_goto ⟨I, T, H, .goto l, rfl, Ext.refl I w, hH, hT, h⟩
 | ret => intro hl I w T a H k r hT hH h; exact wp_ret ⟨I, T, H, .ret, trivial, Ext.refl I w, hH, hT, h⟩
 | refuse s => intro hl I w T a H k r hT hH h; cases h
 | rangeFunc _ _ _ _ _ _ => intro hl I w T a H k r hT hH h; cases h
 | region id ops draw =>
  intro hl I w T a H k r hT hH h
  simp only [dO] at h
  cases draw with
  | true =>
   simp only [if_true] at h
   split at h
   ·rename_i anc ha
    split at h
    ·rename_i hf
     rw [ai] at hf
     exact Fu hcall hg.specs hg.pures hg.tabs hg.qs hf.1 ha hf.2 hT hH h fun I' w' T' H' a' he hH' hT' h' => ⟨I', T', H', .norm, trivial, he, hH', hT', h'⟩
    ·cases h
   ·cases h
  | false =>
   simp only [aD, au] at h
   exact wp_region_list (AZ hcall hT hH h fun I' w' T' H' a' he hH' hT' h' => ⟨I', T', H', .norm, trivial, he, hH', hT', h'⟩)
 | seq x y ihx ihy =>
  intro hl I w T a H k r hT hH h
  simp only [dO] at h
  have key : x.wp cx.P (PostC I w (fun e T H => He (dO cx call f d y) k e T H) r) a w := by
   split at h
   ·rename_i L hL
    unfold E1 at hL
    split at hL
    ·rename_i L' hL'
     split at hL
     ·simp only [aa] at hL
      subst hL
      exact hl _ _ hL' x (aM ..) hT hH h
     ·cases hL
    ·cases hL
   ·exact ihx (fun id L hL c' hc => hl id L hL c' (aB _ (bh _ hc))) hT hH h
  refine wp_seq (Code.wp_mono ?_ key)
  rintro e a2 w2 ⟨I2, T2, H2, x', hx, he2, hH2, hT2, h2⟩
  cases e <;> cases x' <;> first | exact hx.elim | skip
  ·exact Code.wp_mono (fun e a w hp => PostC.ext he2 hp) (ihy (fun id L hL c' hc => hl id L hL c' (aB _ (bD _ hc))) hT2 hH2 h2)
  ·exact ⟨I2, T2, H2, _, hx, he2, hH2, hT2, h2⟩
  ·exact ⟨I2, T2, H2, _, hx, he2, hH2, hT2, h2⟩
  ·exact ⟨I2, T2, H2, _, hx, he2, hH2, hT2, h2⟩
 | cond c x y ihx ihy =>
  intro hl I w T a H k r hT hH h
  simp only [dO] at h
  split at h
  ·rename_i t ht
   have hv := dm hT c
   rw [ht] at hv
   refine wp_cond hv.sc_eq ?_
   cases t with
   | true =>
    simp only [if_true, qA ht] at h ⊢
    exact ihx (fun id L hL c' hc => hl id L hL c' (bh _ hc)) hT hH h
   | false =>
    simp only [aD, au, qA ht] at h ⊢
    exact ihy (fun id L hL c' hc => hl id L hL c' (bD _ hc)) hT hH h
  ·cases h
 | block id c ih =>
  intro hl I w T a H k r hT hH h
  simp only [dO] at h
  refine wp_block (Code.wp_mono ?_ (ih hl hT hH h))
  rintro e a2 w2 ⟨I2, T2, H2, x', hx, he2, hH2, hT2, h2⟩
  cases e <;> cases x' <;> first | exact hx.elim | skip
  ·exact ⟨I2, T2, H2, .norm, trivial, he2, hH2, hT2, h2⟩
  ·rename_i i j
   have : j = i := hx
   subst this
   simp only [Exit.inBlock] at *
   split at h2
   ·rename_i hj
    rw [if_pos hj]
    exact ⟨I2, T2, H2, .norm, trivial, he2, hH2, hT2, h2⟩
   ·rename_i hj
    rw [if_neg hj]
    exact ⟨I2, T2, H2, .exit j, rfl, he2, hH2, hT2, h2⟩
  ·exact ⟨I2, T2, H2, _, hx, he2, hH2, hT2, h2⟩
  ·exact ⟨I2, T2, H2, _, hx, he2, hH2, hT2, h2⟩
 | loop c ih =>
  intro hl I w T a H k r hT hH h
  simp only [dO] at h
  split at h
  ·rename_i L hL
   split at h
   ·exact hl _ L hL _ (aM ..) hT hH h
   ·exact za (fun hT hH h => ih (fun id L hL c' hc => hl id L hL c' (aB _ hc)) hT hH h) hT hH h
  ·exact za (fun hT hH h => ih (fun id L hL c' hc => hl id L hL c' (aB _ hc)) hT hH h) hT hH h
 | scope c ih =>
  intro hl I w T a H k r hT hH h
  simp only [dO] at h
  refine wp_scope_straight (Code.wp_mono ?_ (ih hl hT hH h))
  rintro e a2 w2 ⟨I2, T2, H2, x', hx, he2, hH2, hT2, h2⟩
  cases e <;> cases x' <;> first | exact hx.elim | skip
  ·exact ⟨I2, T2, H2, _, hx, he2, hH2, hT2, h2⟩
  ·exact ⟨I2, T2, H2, _, hx, he2, hH2, hT2, h2⟩
  ·cases h2
  ·exact ⟨I2, T2, H2, _, hx, he2, hH2, hT2, h2⟩
end
section
variable {α : Type} {P : Program} {I : In} {w : World} {T : List DV} {a : Act} {H : Heap}
def r6 (tmps : Array Value) : ResultVar → Sem Value
 | .tmp t => pure (tmps.getD t undef)
 | .cell x t => do loadVar t (← asAddr (tmps.getD x undef))
theorem yj (hT : TR I w T a) (hH : HR I w H) : ∀ {l : List ResultVar} {vs : List DV}, lH P T H l = some vs → ∃ zs : List Value, (l.mapM (r6 a.tmps)).run P w = .ok zs w ∧ LR I w vs zs
 | [], vs, h => by
  simp only [lH, aa] at h
  subst h
  exact ⟨[], rfl, .nil⟩
 | .tmp t :: r, vs, h => by
  simp only [lH] at h
  split at h
  ·rename_i l hl
   simp only [aa] at h
   subst h
   obtain ⟨zs, h1, h2⟩ := yj hT hH hl
   refine ⟨a.tmps.getD t undef :: zs, ?_, .cons _ _ _ _ (hT.val t) h2⟩
   simp only [List.mapM_cons, Sem.run_bind, r6]
   rw [show (pure (a.tmps.getD t undef) : Sem Value).run P w = .ok (a.tmps.getD t undef) w from rfl]
   show ((List.mapM (r6 a.tmps) r).run P w).andThen _ = _
   rw [h1]
   rfl
  ·cases h
 | .cell x t :: r, vs, h => by
  simp only [lH] at h
  split at h
  ·rename_i v l hv hl
   simp only [aa] at h
   subst h
   obtain ⟨zs, h1, h2⟩ := yj hT hH hl
   obtain ⟨ad, u, g1, g2, g3⟩ := yc (hT.val x) hH hv
   refine ⟨u :: zs, ?_, .cons _ _ _ _ g3 h2⟩
   simp only [List.mapM_cons, Sem.run_bind, r6]
   rw [g1]
   show (((loadVar t ad).run P w).andThen fun a_1 w' => ((List.mapM (r6 a.tmps) r).run P w').andThen fun a w' => (pure (a_1 :: a) : Sem (List Value)).run P w') = _
   rw [g2]
   show ((List.mapM (r6 a.tmps) r).run P w).andThen _ = _
   rw [h1]
   rfl
  ·cases h
theorem xg {fn : Func} {vs : List DV} (hT : TR I w T a) (hH : HR I w H) (h : lH P T H fn.results.toList = some vs) : ∃ z, (results fn a.tmps).run P w = .ok z w ∧ VR I w (gf vs) z := by
 obtain ⟨zs, h1, h2⟩ := yj (P := P) hT hH h
 rw [show results fn a.tmps = (do let vs ← fn.results.mapM (r6 a.tmps); pure (if h : vs.size = 1 then vs[0] else .tuple vs)) from rfl, Array.mapM_eq_mapM_toList]
 have h3 : ((List.toArray <$> (fn.results.toList.mapM (r6 a.tmps))) : Sem (Array Value)).run P w = .ok zs.toArray w := by
  rw [map_eq_pure_bind, Sem.run_bind, h1]
  rfl
 refine ⟨_, by rw [Sem.run_bind, h3]; rfl, ?_⟩
 cases h2 with
 | nil => exact .tup [] #[] .nil
 | cons d r u us hd hr => cases hr with
  | nil => exact hd
  | cons d' r' u' us' hd' hr' => exact .tup _ _ (.cons _ _ _ _ hd (.cons _ _ _ _ hd' hr'))
theorem xh : ∀ {l : List FS} {A : List DV} {b : Nat} {k : DV → Heap → Option (List Nat) → Option α} {q : Option α}, ou l A H b k = some q → ∃ S X m, S ∈ l ∧ S.tin.pr ⟨[], []⟩ A H = some (X, m) ∧ q = (S.fn X).bind fun y => if S.tout.free (mo (dw m.u H) b m) ((dw m.u H).away m) = true then k (gf (S.tout.T (mo (dw m.u H) b m) (S.out y))) (S.tout.H (mo (dw m.u H) b m) (S.out y) ((dw m.u H).away m)) (some m.u) else none
 | [], A, b, k, q, h => by cases h
 | S :: l, A, b, k, q, h => by
  simp only [ou] at h
  split at h
  ·rename_i X m hX
   simp only [aa] at h
   exact ⟨S, X, m, by simp, hX, h.symm⟩
  ·obtain ⟨S', X, m, h1, h2⟩ := xh h
   exact ⟨S', X, m, aB _ h1, h2⟩
theorem LR.length : ∀ {ds : List DV} {vs : List Value}, LR I w ds vs → ds.length = vs.length
 | _, _, .nil => rfl
 | _, _, .cons d r u vs h hr => by simp [LR.length hr]
theorem LR.getD : ∀ {ds : List DV} {vs : List Value} (i : Nat), LR I w ds vs → VR I w (ds.getD i .undef) (vs.getD i undef)
 | _, _, _, .nil => .undef _
 | _, _, 0, .cons d r u vs h hr => h
 | _, _, i + 1, .cons d r u vs h hr => by simpa using LR.getD i hr
theorem Bf {A : List DV} {args : List Value} {n : Nat} (hl : A.length ≤ args.length) (hA : ∀ i, VR I w (A.getD i .undef) (args.getD i undef)) : TR I w (A ++ List.replicate (n - A.length) .undef) { tmps := args.toArray ++ Array.replicate (n - args.toArray.size) undef, defers := [] } := by
 refine ⟨by simp; omega, fun i => ?_, rfl⟩
 rcases am i A.length with h | h
 ·have := hA i
  simp only [av, bP] at this ⊢
  rw [bc h, Array.getElem?_append_left (by simp; omega)]
  simpa using this
 ·have : (A ++ List.replicate (n - A.length) DV.undef).getD i .undef = .undef := by
   rw [av, bg h, ca]
   split <;> rfl
  rw [this]
  exact .undef _
variable {cx : Cx} {call : gN α}
theorem vm (hg : Good cx) (hcall : qv cx.P call) {d : Nat} {f : FuncId} {A : List DV} {args : List Value} {k : DV → Heap → Option α} {r : α} (hH : HR I w H) (hl : A.length ≤ args.length) (hA : ∀ i, VR I w (A.getD i .undef) (args.getD i undef)) (h : jV cx call f d A H k = some r) :
  Calls cx.P f args.toArray w (rQ fun z w' => ∃ I' v H', k v H' = some r ∧ Ext I w I' w' ∧ HR I' w' H' ∧ VR I' w' v z) := by
 unfold jV at h
 split at h
 ·rename_i fn hf
  split at h
  ·rename_i c hb
   refine calls_of_wp hf hb (Code.wp_mono ?_ (r5 hg hcall c (fun id L hL c' hc => hg.loops f id L hL fn c c' hf hb hc) (Bf (n := fn.ntmps) hl hA) hH h))
   rintro e a' w' ⟨I', T', H', x, hx, he, hH', hT', h'⟩
   have fin : (match lH cx.P T' H' fn.results.toList with | some vs => k (gf vs) H' | none => none) = some r → a'.defers = [] ∧ ∃ v, (results fn a'.tmps).run cx.P w' = .ok v w' ∧ ∃ I' v' H', k v' H' = some r ∧ Ext I w I' w' ∧ HR I' w' H' ∧ VR I' w' v' v := by
    intro h'
    split at h'
    ·rename_i vs hvs
     obtain ⟨z, g1, g2⟩ := xg (P := cx.P) hT' hH' hvs
     exact ⟨hT'.df, z, g1, I', _, H', h', he, hH', g2⟩
    ·cases h'
   cases e <;> cases x <;> first | exact hx.elim | skip
   ·exact fin h'
   ·cases h'
   ·cases h'
   ·exact fin h'
  ·cases h
 ·cases h
theorem oA (hg : Good cx) (n : Nat) : ∀ d : Nat, qv cx.P (fN (α := α) cx n d) := by
 induction n with
 | zero =>
  intro d I w H A args f k r hH hA h
  cases h
 | succ n ih =>
  intro d I w H A args f k r hH hA h
  simp only [fN] at h
  split at h
  ·rename_i hent
   refine ⟨kx hent, ?_⟩
   split at h
   ·rename_i v hv
    obtain ⟨_, t, ht, hl, hp, rfl⟩ := uS hv
    refine Calls.mono (hg.tabs f t ht hH hA hl hp) ?_
    rintro e w' he
    cases e with
    | returned z =>
     obtain ⟨I', m1, m2, m3, m4⟩ := he
     exact ⟨I', _, H, _, h, m1, m3, m4, fun l hl n sz v _ hn => m2.row n sz v hn⟩
    | _ => exact he.elim
   split at h
   ·rename_i q hq
    obtain ⟨S, X, m, h1, h2, rfl⟩ := xh hq
    exact hg.specs f S h1 hH hA h2 (fun i n hin => by simp only [mo, xc (rU (Fi h2)) hin]) h
   ·split at h
    ·refine Calls.mono (vm hg (ih (d + 1)) hH (aV hA.length) (fun i => hA.getD i) h) ?_
     rintro e w' he
     cases e with
     | returned z =>
      obtain ⟨I', v, H', k1, k2, k3, k4⟩ := he
      exact ⟨I', v, H', none, k1, k2, k3, k4, fun l hl => by cases hl⟩
     | _ => exact he.elim
    ·cases h
  ·cases h
end
end Go.Proofs.Dk
