/- A part of the proofs: Stores; what is built. -/
import Derived.Test.YtipefepnkpoiaaaGreatMB0
import Derived.Great.BuildSlice
import Derived.Laws.OwnMore
import Derived.Laws.BytesArg
import Derived.Laws.IdiomStrings
import Derived.Laws.AppendOwn
import Derived.MapKept
import Derived.Laws.CopyRow
import Derived.Tactics
import Derived.Orders
set_option linter.unusedVariables false
set_option linter.unusedSimpArgs false
noncomputable section
namespace Go.Proofs.Dk
open Go Go.RowKit
section
variable {P : Program} {I : In} {w w' : World} {T : List DV} {a : Act} {H : Heap} {α : Type}
theorem Same.write (hH : HR I w H) {n b : Nat} {e : Ent} (hi : I.ι n = some e) (hb : e.has b) (hs : ∀ g, g ≠ b → w'.heap[g]? = w.heap[g]?) : Same I I w w' :=
 ⟨⟨fun _ h => h, fun g hg => hs g (by rintro rfl; exact (hH.lt n e _ hi hb).2 hg), fun _ _ _ h => h⟩, fun _ _ h => h, fun _ _ _ h => h⟩
theorem HR.write (hH : HR I w H) {n b : Nat} {e : Ent} (hi : I.ι n = some e) (hb : e.has b) (hs : ∀ g, g ≠ b → w'.heap[g]? = w.heap[g]?) (hz : w'.heap.size = w.heap.size) {k : Blk} (hk : BR I w' n k) : HR I w' (H.set n (some k)) := by
 refine HR.of (fun m b' h => ?_) (fun m h => ?_) (fun m e' b' h hb' => ?_) hH.inj (fun b' h => ?_) hH.one
 ·by_cases hm : m = n
  ·subst hm
   rw [Heap.set_same] at h
   simp only [ab] at h
   subst h
   exact hk
  ·rw [dS hm] at h
   refine (hH.br h).keep (Same.write hH hi hb hs) (fun _ _ h => ⟨h, rfl⟩) (fun e' g h1 h2 => hs g ?_)
   rintro rfl
   exact hm (hH.inj m n e' e g h1 hi h2 hb)
 ·by_cases hm : m = n
  ·subst hm; rw [Heap.set_same] at h; cases h
  ·rw [dS hm] at h
   exact hH.dom m h
 ·rw [hz]
  exact hH.lt m e' b' h hb'
 ·rw [hz]
  exact hH.rlt b' h
theorem Ext.write {n b : Nat} {e : Ent} (hi : I.ι n = some e) (hb : e.has b) (hs : ∀ g, g ≠ b → w'.heap[g]? = w.heap[g]?) (hz : w'.heap.size = w.heap.size) (ho : w'.os = w.os) (ht : w'.tape = w.tape) (hp : w'.output = w.output) : Ext I w I w' :=
 ⟨fun _ _ h => h, fun _ h => h, fun g _ hn => hs g (by rintro rfl; exact hn n e hi hb), fun m e' b' h hb' => .inl ⟨m, e', h, hb'⟩, fun _ h => .inl h, by omega, ho, ht, hp, fun _ _ _ h => h, fun _ h => ⟨rfl, h⟩⟩
theorem yx {o : Oper} {t : TypeId} {x y : Operand} {b off : Nat} {v : Value} (ho : o.op = .store t x y) (hx : a.eval x = .pointer (some ⟨b, off, none⟩)) (hy : a.eval y = v) {inf : TypeInfo} (hi : P.info? t = some inf) (hz : inf.size = v.cells.size)
  (hc : ∀ j, j < v.cells.size → (w.cell? ⟨b, off + j, none⟩).isSome = true) (hf : ∀ j, j < v.cells.size → w.frozen? ⟨b, off + j, none⟩ = false) (h1 : ∀ u ∈ v.cells.toList, u.oneCell' = true) :
  (execOp a.eval o).run P w = .ok .skip (w.setCells b off v.cells.toList) := by
 have hr := run_storeCells_cells (P := P) b off v.cells.toList 0 w (fun j hj => by simpa using hc j (by simpa using hj)) (fun j hj => by simpa using hf j (by simpa using hj)) h1
 unfold execOp
 rw [ho]
 show ((do Instr.storeAt t (a.eval x) (a.eval y); pure Next.skip) : Sem Next).run P w = _
 rw [hx, hy]
 simp only [cu] at hr
 simp [Instr.storeAt, Instr.sureAddr, storeVar, Sem.run_bind, sizeOf, typeInfo, hi, hz, hr]
theorem Az {b off n : Nat} {c : Array Value} {t : TypeId} (h : w.heap[b]? = some (.cells c t (0, 0))) (hl : off + n ≤ c.size) : (∀ j, j < n → (w.cell? ⟨b, off + j, none⟩).isSome = true) ∧ (∀ j, j < n → w.frozen? ⟨b, off + j, none⟩ = false) := by
 refine ⟨fun j hj => ?_, fun j hj => ?_⟩
 ·rw [qX h, ax (by simp; omega)]
  rfl
 ·simp [World.frozen?, h]
theorem JZ {o : Oper} {t : TypeId} {x y : Operand} {r : Nat × Blk} (ho : o.op = .store t x y) (hT : TR I w T a) (hH : HR I w H) (h : p8 P t H (dh T x) (dh T y) = some r) : Done P o a I w H .undef (some r) := by
 have hx := dP hT x
 have hy := dP hT y
 unfold p8 at h
 split at h
 ·rename_i hst
  have hC := ow hy hst
  have hones := hC.ones
  have hlen := hC.len
  generalize hv : a.eval y = v at hC hones hlen
  split at h
  ·rename_i hsz
   obtain ⟨inf, hinf, hs2⟩ := fK hsz
   have hz : inf.size = v.cells.size := by rw [hs2, ← hlen]; simp
   split at h
   ·rename_i n off p hdx
    rw [hdx] at hx
    generalize hxa : a.eval x = xa at hx
    cases hx with | ptr _ _ _ b hb hp =>
    split at h
    ·rename_i cs hcs
     split at h
     ·rename_i cs' hset
      simp only [ab] at h
      subst h
      obtain ⟨b', c, ty, e1, e2, e3⟩ := hH.obj n cs hcs
      rw [hb] at e1
      simp only [ab, Ent.obj.injEq] at e1
      subst e1
      obtain ⟨k1, k2⟩ := n7 hset (show lW (.off off :: p) from hp) e3 hC
      simp only [dO] at k1 k2
      have hle : off + dO p + v.cells.toList.length ≤ c.size := by simpa using k1
      obtain ⟨c', m1, m2, m3, m4, m5, m6, m7⟩ := nC v.cells.toList w b (off + dO p) c ty e2 hle
      have hth := Az e2 (off := off + dO p) (n := v.cells.size) (by simpa using hle)
      refine ⟨I, _, _, yx ho hxa hv hinf hz hth.1 hth.2 hones, Ext.write hb rfl m3 m4 m5 m6 m7, ⟨fun _ _ _ h => h⟩, ?_, rfl⟩
      refine HR.write hH hb rfl m3 m4 ⟨b, c', ty, hb, m1, ?_⟩
      rw [m2]
      exact CR.keep (Same.write hH hb rfl m3) k2
     ·cases h
    ·cases h
   ·rename_i n sz i p hdx
    rw [hdx] at hx
    generalize hxa : a.eval x = xa at hx
    cases hx with | rp _ _ _ _ b len cap hb hi hp =>
    split at h
    ·rename_i E s xs hrow
     split at h
     ·rename_i hsz'
      split at h
      ·rename_i its hset
       split at h
       ·rename_i yv hdec
        simp only [ab] at h
        subst h
        obtain ⟨g1, g2, cs, g3, g4, g5⟩ := kK hH hrow hb
        subst g1
        subst g2
        obtain ⟨q1, q2⟩ := w7 g3 hi
        obtain ⟨k1, k2⟩ := n7 hset hp (Sh.enc_ok (I := I) q1) hC
        obtain ⟨d1, d2, e1, e2, e3⟩ := Sh.dec_ok hdec k2
        cases e3
        rw [aG] at e1
        subst e1
        obtain ⟨r1, r2⟩ := L7 g3 hi e2
        have hql : ((cs.drop (i * s.sz)).take s.sz).length = s.sz := Sh.K_len q1
        have hmid : dK cs (i * s.sz) (dK ((cs.drop (i * s.sz)).take s.sz) (dO p) v.cells.toList) = dK cs (i * s.sz + dO p) v.cells.toList := yp (by omega) q2
        rw [hmid] at r1
        obtain ⟨gl, gr⟩ := g4
        rcases gr with ⟨e0, _⟩ | ⟨g, cp, cur, e0, _, hh, hcap, hmx, hcs, htk⟩
        ·cases e0
        ·simp only [Value.slice.injEq, ab, Addr.mk.injEq, aZ, true_and] at e0
         obtain ⟨rfl, rfl⟩ := e0
         have hle0 : i * s.sz + dO p + v.cells.toList.length ≤ cs.length := by omega
         have hcl : cs.length ≤ cur.size := by rw [← htk]; simp; omega
         have hle : i * s.sz + dO p + v.cells.toList.length ≤ cur.size := by omega
         obtain ⟨c', m1, m2, m3, m4, m5, m6, m7⟩ := nC v.cells.toList w b (i * s.sz + dO p) cur E hh hle
         have hth := Az hh (off := i * s.sz + dO p) (n := v.cells.size) (by simpa using hle)
         refine ⟨I, _, _, yx ho hxa hv hinf hz hth.1 hth.2 hones, Ext.write hb rfl m3 m4 m5 m6 m7, ⟨fun _ _ _ h => h⟩, ?_, rfl⟩
         have hlset : (xs.set i yv).length = xs.length := aM
         refine HR.write hH hb rfl m3 m4 ⟨_, dK cs (i * s.sz + dO p) v.cells.toList, hb, ⟨?_, .inr ⟨b, cap, c', ?_, ay _, m1, ?_, hmx, ?_, ?_⟩⟩, ?_⟩
         ·rw [iJ hle0, gl, hlset]
         ·rw [hlset]
         ·rw [hlset]; exact hcap
         ·have := congrArg List.length m2
          rw [iJ (by simpa using hle)] at this
          simpa [hcs] using this
         ·rw [hlset, m2, ← htk]
          have hk : xs.length * s.sz = cs.length := gl.symm
          rw [hk] at htk ⊢
          conv => lhs; rw [← bE cs.length cur.toList, htk]
          rw [htk, ot hle0, bC (by rw [iJ hle0]; exact ak _), aQ (by rw [iJ hle0]; exact ak _)]
         ·rw [hlset]
          exact Sh.K_keep (Same.write hH hb rfl m3).keeps r1
       ·cases h
      ·cases h
     ·cases h
    ·cases h
   ·cases h
  ·cases h
 ·cases h
end
section
variable {P : Program} {I : In} {w w' : World} {T : List DV} {a : Act} {H : Heap} {α : Type}
theorem AA : ∀ (l : List Value) (k off : Nat) (cells : Array Value), off + k + l.length ≤ cells.size → ((l.zipIdx k).foldl (fun cs (x : Value × Nat) => cs.setIfInBounds (off + x.2) x.1) cells).toList = dK cells.toList (off + k) l
 | [], k, off, cells, h => by simp [dK]
 | v :: l, k, off, cells, h => by
  simp only [aH] at h
  rw [List.zipIdx_cons, List.foldl_cons, AA l (k + 1) off _ (by simp; omega), Array.toList_setIfInBounds]
  obtain ⟨x, y, z, e, hx⟩ : ∃ (x : List Value) (y : Value) (z : List Value), cells.toList = x ++ y :: z ∧ x.length = off + k := by
   have hlt : off + k < cells.toList.length := by simp; omega
   exact ⟨cells.toList.take (off + k), cells.toList[off + k], cells.toList.drop (off + k + 1), by rw [← cb hlt, bE], by simp; omega⟩
  rw [e, ← bD, ← hx]
  have e1 : (x ++ y :: z).set x.length v = x ++ ([v] ++ z) := by simp
  have e2 : x ++ y :: z = x ++ ([y] ++ z) := by simp
  rw [e1, e2]
  have a1 := iV (c1 := x) (c2 := [v] ++ z) (d := l) (o := 1)
  have a2 := iV (c1 := x) (c2 := [y] ++ z) (d := v :: l) (o := 0)
  rw [a1]
  rw [cu] at a2
  rw [a2]
  simp [dK, List.drop_succ_cons, bT]
theorem AB {place : Nat → Option (Nat × Nat)} {cells : Array Value} {i off size : Nat} {v : Value} {rest : List (Nat × Value)} (hp : place i = some (off, size)) (hz : v.cells.size = size) (hl : off + v.cells.size ≤ cells.size) :
  ∃ cells', cells'.toList = dK cells.toList off v.cells.toList ∧ Instr.fill place cells ((i, v) :: rest) = Instr.fill place cells' rest := by
 refine ⟨v.cells.zipIdx.foldl (fun cs (c, j) => cs.setIfInBounds (off + j) c) cells, ?_, ?_⟩
 rotate_left
 ·rw [Instr.fill]
  have hd : ¬ (cells.size < off + size) := by omega
  simp [hp, hz, hd]
 ·have := AA v.cells.toList 0 off cells (by simpa using hl)
  rw [← Array.foldl_toList]
  simpa using this
inductive Parts (I : In) (w : World) : List (Nat × DV) → List (Nat × Value) → Prop where
 | nil : Parts I w [] []
 | cons (i : Nat) (d : DV) (v : Value) (r : List (Nat × DV)) (r' : List (Nat × Value)) (h : VR I w d v) (hr : Parts I w r r') : Parts I w ((i, d) :: r) ((i, v) :: r')
theorem Cz {place : Nat → Option (List Ix × Nat)} {pm : Nat → Option (Nat × Nat)} (hpl : ∀ i p n, place i = some (p, n) → pm i = some (dO p, n) ∧ lW p) :
  ∀ {ps : List (Nat × DV)} {ps' : List (Nat × Value)} {its out : List DV} {c : Array Value}, Parts I w ps ps' → vB place ps its = some out → CR I w its c.toList → ∃ c', Instr.fill pm c ps' = some c' ∧ CR I w out c'.toList
 | _, _, its, out, c, .nil, h, hc => by
  simp only [vB, ab] at h
  subst h
  exact ⟨c, rfl, hc⟩
 | _, _, its, out, c, .cons i d v r r' hd hr, h, hc => by
  simp only [vB] at h
  split at h
  ·rename_i p n hpn
   split at hpn
   ·rename_i hst
    split at h
    ·rename_i hw
     split at h
     ·rename_i its' hset
      obtain ⟨h1, h2⟩ := hpl i p n hpn
      have hC := ow hd hst
      have hlen := hC.len
      obtain ⟨k1, k2⟩ := n7 hset h2 hc hC
      have hz : v.cells.size = n := by rw [← hw, ← hlen]; simp
      obtain ⟨c', e1, e2⟩ := AB (rest := r') h1 hz (by simpa using k1)
      obtain ⟨c2, g1, g2⟩ := Cz hpl hr h (c := c') (by rw [e1]; exact k2)
      exact ⟨c2, by rw [e2, g1], g2⟩
     ·cases h
    ·cases h
   ·cases hpn
  ·cases h
theorem CA (hT : TR I w T a) : ∀ ps : List (Nat × Operand), Parts I w (ps.map fun e => (e.1, dh T e.2)) (ps.map fun e => (e.1, a.eval e.2))
 | [] => .nil
 | e :: r => .cons _ _ _ _ _ (dP hT e.2) (CA hT r)
theorem HB {t : TypeId} {it : TypeInfo} {z : Value} (hit : P.info? t = some it) (hz : it.zero = some z) (hne : l8 P t = true) :
  ∃ pm : Nat → Option (Nat × Nat), (∀ i p n, ti P t i = some (p, n) → pm i = some (dO p, n) ∧ lW p) ∧ ∀ ps' c, Instr.fill pm z.cells ps' = some c → P.built t ps' = some c := by
 cases hu : P.underlying t with
 | none => simp [l8, hu] at hne
 | some d =>
  cases d with
  | struct fs =>
   have hall : fs.toList.all (fun f => (P.info? f.type).isSome) = true := by
    simpa only [l8, hu] using hne
   have hpl : ∀ l : List Field, (∀ x ∈ l, (P.info? x.type).isSome = true) → l.mapM (fun f => (P.info? f.type).map fun i => (f.offset, i.size)) = some (l.map fun f => (f.offset, dI P f.type)) := by
    intro l
    induction l with
    | nil => intro _; rfl
    | cons f l ih =>
     intro h
     obtain ⟨i, hi⟩ := Option.isSome_iff_exists.1 (h f (aD ..))
     rw [List.mapM_cons, ih (fun x hx => h x (az _ hx)), hi]
     simp [dI, hi]
   have hpl := hpl fs.toList (aN.1 hall)
   refine ⟨((fs.toList.map fun f => (f.offset, dI P f.type)).toArray[·]?), fun i p n h => ?_, fun ps' c h => ?_⟩
   ·simp only [ti, hu, hall, if_true] at h
    split at h
    ·rename_i g hg
     simp only [ab, ah] at h
     obtain ⟨rfl, rfl⟩ := h
     refine ⟨?_, trivial⟩
     simp [hg, dO]
    ·cases h
   ·unfold Program.built
    rw [hit, hu]
    simp only [hz, hpl]
    exact h
  | array m e =>
   have hsz : i7 P e (dI P e) = true := by
    simpa only [l8, hu] using hne
   obtain ⟨ie, hie, hs2⟩ := fK hsz
   refine ⟨fun i => some (i * ie.size, ie.size), fun i p n h => ?_, fun ps' c h => ?_⟩
   ·simp only [ti, hu, hsz, if_true] at h
    split at h
    ·rename_i s hs
     split at h
     ·rename_i hi
      split at h
      ·rename_i hss
       simp only [ab, ah] at h
       obtain ⟨rfl, rfl⟩ := h
       exact ⟨by simp [dO, hs2, hss], hi, trivial⟩
      ·cases h
     ·cases h
    ·simp only [ab, ah] at h
     obtain ⟨rfl, rfl⟩ := h
     exact ⟨by simp [dO, hs2], trivial⟩
   ·unfold Program.built
    rw [hit, hu]
    simp only [hz, hie]
    exact h
  | _ => simp [l8, hu] at hne
theorem J0 {o : Oper} {t : TypeId} {ps : Array (Nat × Operand)} {its out : List DV} (ho : o.op = .build t ps) (hT : TR I w T a) (hH : HR I w H) (hne : l8 P t = true) (hz : nN P t = some its) (h : vB (ti P t) (ps.toList.map fun e => (e.1, dh T e.2)) its = some out) : Done P o a I w H (.agg out) none := by
 obtain ⟨it, z, hit, hz0, hC⟩ := rf (I := I) (w := w) hz
 have hex : ∃ c, P.built t (ps.toList.map fun e => (e.1, a.eval e.2)) = some c ∧ CR I w out c.toList := by
  obtain ⟨pm, h1, h2⟩ := HB (P := P) hit hz0 hne
  obtain ⟨c, g1, g2⟩ := Cz h1 (CA hT ps.toList) h hC
  exact ⟨c, h2 _ _ g1, g2⟩
 obtain ⟨c, hb, hC2⟩ := hex
 refine Done.pure (u := .agg c) hH ?_ (.agg _ _ hC2)
 unfold execOp
 rw [ho]
 refine jL (run_build w t _ c ?_)
 rw [← hb]
 congr 1
 simp
theorem E9 {s : Sh} : ∀ {ds : List DV} {vs : List Value} {xs : List s.T}, LR I w ds vs → zN s ds = some xs → xs.length = vs.length ∧ (∀ v ∈ vs, v.cells.size = s.sz) ∧ (Sh.arr xs.length s).K I.R w xs (vs.flatMap fun v => v.cells.toList)
 | _, _, xs, .nil, h => by
  simp only [zN, ab] at h
  subst h
  exact ⟨rfl, fun v hv => by (cases hv), rfl, by simp, fun i x hx => by simp at hx⟩
 | _, _, xs, .cons d r v vs hd hr, h => by
  simp only [zN] at h
  split at h
  ·rename_i y hy
   split at hy
   ·rename_i hst
    split at h
    ·rename_i l hl
     simp only [ab] at h
     subst h
     obtain ⟨h1, h2, h3, h4, h5⟩ := E9 hr hl
     obtain ⟨c1, c2, e1, k1, k2⟩ := Sh.dec_ok hy (ow hd hst)
     cases k2
     rw [aG] at e1
     have hlen := Sh.K_len k1
     rw [← e1] at hlen k1
     have hsz : v.cells.size = s.sz := by simpa using hlen
     refine ⟨by simp [h1], fun u hu => ?_, rfl, ?_, fun i x hx => ?_⟩
     ·rcases aB.1 hu with rfl | hu
      ·exact hsz
      ·exact h2 u hu
     ·simp only [cG, aF, hlen, h4, aH, aK]
      omega
     ·rw [cG]
      cases i with
      | zero =>
       simp only [bu, ab] at hx
       subst hx
       rw [Nat.zero_mul, bx, bC (ba hlen.symm), aQ (ba hlen)]
       exact k1
      | succ i =>
       simp only [cF] at hx
       have := h5 i x hx
       rw [aK, bT, ← bv, b6 (ba hlen.symm), cf (ba hlen), bI]
       exact this
    ·cases h
   ·cases hy
  ·cases h
theorem yy {sz : Nat} : ∀ {vs : List Value} {k : Nat} {c : Array Value}, (∀ v ∈ vs, v.cells.size = sz) → (k + vs.length) * sz = c.size →
  ∃ c', Instr.fill (fun i => some (i * sz, sz)) c ((List.range' k vs.length).zip vs) = some c' ∧ c'.toList = c.toList.take (k * sz) ++ vs.flatMap fun v => v.cells.toList
 | [], k, c, _, hl => by
  refine ⟨c, rfl, ?_⟩
  simp only [bU, cu] at hl
  simp [aQ, hl]
 | v :: vs, k, c, hv, hl => by
  simp only [aH] at hl
  have h1 := hv v (aD ..)
  have hle : k * sz + sz ≤ c.size := by
   rw [← hl, ← aK]
   exact aS _ (by omega)
  obtain ⟨c1, e1, e2⟩ := AB (place := fun i => some (i * sz, sz)) (rest := (List.range' (k + 1) vs.length).zip vs) (i := k) (v := v) (cells := c) rfl h1 (by omega)
  have hc1 : c1.size = c.size := by
   have := congrArg List.length e1
   rw [iJ (by simp; omega)] at this
   simpa using this
  obtain ⟨c', g1, g2⟩ := yy (k := k + 1) (c := c1) (fun u hu => hv u (az _ hu)) (by rw [hc1, ← hl]; congr 1; omega)
  refine ⟨c', ?_, ?_⟩
  ·rw [aH, List.range'_succ, List.zip_cons_cons, e2, g1]
  ·rw [g2, e1, aK]
   simp only [dK, cG]
   have hx : (c.toList.take (k * sz)).length = k * sz := by simp; omega
   have hvl : v.cells.toList.length = sz := by simpa using h1
   rw [aI, List.take_append, hx]
   rw [aQ (by omega : (c.toList.take (k * sz)).length ≤ k * sz + sz), Nat.add_sub_cancel_left, bC (by omega)]
   have h3 : v.cells.toList.take sz = v.cells.toList := aQ (by omega)
   rw [h3]
   simp
theorem LR.map (hT : TR I w T a) : ∀ ps : List Operand, LR I w (ps.map (dh T)) (ps.map a.eval)
 | [] => .nil
 | e :: r => .cons _ _ _ _ (dP hT e) (LR.map hT r)
theorem BL {o : Oper} {t e : TypeId} {s : Sh} {m n : Nat} {ps : Array (Nat × Operand)} {xs : List s.T} (ho : o.op = .buildSlice t m ps) (hT : TR I w T a) (hH : HR I w H) (hn : H n = none) (hu : P.underlying t = some (.slice e)) (hi : ps.toList.map (·.1) = List.range m) (hs : i7 P e s.sz = true)
  (hx : zN s (ps.toList.map fun e => dh T e.2) = some xs) (h1 : m * s.sz ≤ 4096) (hp : 0 < s.sz) (h2 : m = 0 ∨ (nN P e).isSome = true) : Done P o a I w H (.rw n) (some (n, .row e s xs)) := by
 obtain ⟨ie, hie, hsz⟩ := fK hs
 have hLR : LR I w (ps.toList.map fun e => dh T e.2) (ps.toList.map fun e => a.eval e.2) := by
  have := LR.map hT (ps.toList.map (·.2))
  simpa [List.map_map, Function.comp_def] using this
 obtain ⟨g1, g2, g3⟩ := E9 hLR hx
 have hm : ps.toList.length = m := by
  have := congrArg List.length hi
  simpa using this
 have hxm : xs.length = m := by rw [g1]; simpa using hm
 have hparts : (ps.map fun x => (x.1, a.eval x.2)).toList = (List.range' 0 m).zip (ps.toList.map fun e => a.eval e.2) := by
  rw [cv, ← List.range_eq_range', ← hi, List.zip_map', ]
 have hmx : m ≤ m * s.sz := Nat.le_mul_of_pos_right m hp
 by_cases hz : m = 0
 ·subst hz
  have hps : ps = #[] := by
   apply Array.ext'
   simpa using bn hm
  have hxs : xs = [] := bn hxm
  subst hxs
  subst hps
  have hr : (Instr.buildSlice t 0 #[]).run P w = .ok (.slice (some ⟨w.heap.size, 0, none⟩) 0 0) (w.alloc (.cells #[] e)) := by
   simp [Instr.buildSlice, run_underlying hu, sizeOf, typeInfo, hie, newRow, Instr.fill, Array.range_zero']
  exact w8 (P := P) (a := a) (o := o) (E := e) (s := s) (xs := []) (c := #[]) hH hn (by simpa using g3) (by simp) (by
   unfold execOp
   rw [ho]
   refine jL ?_
   simpa using hr)
 ·have hpos : 0 < m * s.sz := Nat.mul_pos (by omega) hp
  obtain ⟨its, hits⟩ := Option.isSome_iff_exists.1 (h2.resolve_left hz)
  obtain ⟨ie', z, hie', hz0, _⟩ := rf (I := I) (w := w) hits
  rw [hie] at hie'
  cases hie'
  have hlen : (ps.toList.map fun e => a.eval e.2).length = m := by simpa using hm
  obtain ⟨c', f1, f2⟩ := yy (sz := s.sz) (k := 0) (c := (Array.range (m * ie.size)).map (z.cells[· % z.cells.size]!)) g2 (by rw [hlen]; simp [hsz])
  rw [hlen] at f1
  have hr := run_buildSlice (P := P) w t e m (ps.map fun x => (x.1, a.eval x.2)) c' ie z hu hie hz0 (by rw [hsz]; omega) (by rw [hsz]; omega) (by rw [hparts, hsz]; rw [hsz] at f1; exact f1)
  have := w8 (P := P) (a := a) (o := o) (E := e) (s := s) (xs := xs) (c := c') hH hn (by rw [f2]; simpa using g3) (by simp only [maxLen]; omega) (by
   unfold execOp
   rw [ho]
   refine jL ?_
   rw [hxm]
   exact hr)
  exact this
end
section
variable {P : Program} {I : In} {w w' : World} {T : List DV} {a : Act} {H : Heap} {α : Type}
theorem rh {R : RO} {s : Sh} {n l : Nat} {xs : List s.T} {cs : List Value} (h : (Sh.arr n s).K R w xs cs) (hl : l ≤ n) : (Sh.arr (xs.take l).length s).K R w (xs.take l) (cs.take (l * s.sz)) := by
 have hle : l * s.sz ≤ n * s.sz := aS _ hl
 have h1 := h.1
 have h2 := h.2.1
 refine ⟨rfl, by simp only [bV]; rw [h1, h2, cw hl, cw hle], fun i x hx => ?_⟩
 rw [aP] at hx
 split at hx
 ·rename_i hil
  have h3 := h.2.2 i x hx
  have : i * s.sz + s.sz ≤ l * s.sz := by rw [← aK]; exact aS _ hil
  rw [List.drop_take, ch]
  have e : min s.sz (l * s.sz - i * s.sz) = s.sz := by omega
  rw [e]
  exact h3
 ·cases hx
theorem w9 {s : Sh} {d : DV} {v : Value} {ys : List s.T} (hH : HR I w H) (hd : VR I w d v) (h : ez H s d = some ys) :
  ∃ A c, v = .slice A ys.length c ∧ ∃ news : List Value, (Sh.arr ys.length s).K I.R w ys news ∧ (A = none → ys = []) ∧ ∀ ad, A = some ad → ∀ j u, news[j]? = some u → w.cell? (ad.add j) = some u := by
 have fromK : ∀ {xs : List s.T} {v : Value}, (Sh.sl s).K I.R w xs [v] → ∃ A c, v = .slice A xs.length c ∧ ∃ news : List Value, (Sh.arr xs.length s).K I.R w xs news ∧ (A = none → xs = []) ∧ ∀ ad, A = some ad → ∀ j u, news[j]? = some u → w.cell? (ad.add j) = some u := by
  rintro xs v ⟨A, cap, e1, e2, e3⟩
  simp only [bm, aZ] at e1
  subst e1
  refine ⟨A, cap, rfl, ?_⟩
  by_cases hne : xs = []
  ·subst hne
   exact ⟨[], ⟨rfl, by simp, fun i x hx => by simp at hx⟩, fun _ => rfl, fun ad _ j u hu => by simp at hu⟩
  ·obtain ⟨ad, rfl, g1, g2, g3⟩ := e3 hne
   have hall : ∀ i, i < xs.length → ∃ c : List Value, c.length = s.sz ∧ (∀ x, xs[i]? = some x → s.K I.R w x c) ∧ ∀ j u, c[j]? = some u → w.cell? (ad.add (i * s.sz + j)) = some u := by
    intro i hi
    obtain ⟨c, m1, m2, m3⟩ := g3 i _ (ax hi)
    refine ⟨c, m1, fun x hx => ?_, m3⟩
    rw [ax hi] at hx
    simp only [ab] at hx
    subst hx
    exact m2
   obtain ⟨X, hX⟩ := Go.Deep.choose_lt hall
   have hlen : ∀ n, n ≤ xs.length → ((List.range n).flatMap X).length = n * s.sz := by
    intro n
    induction n with
    | zero => intro _; simp
    | succ n ih =>
     intro hn
     rw [List.range_succ, List.flatMap_append, aF, ih (by omega)]
     simp [(hX n (by omega)).1, aK]
   have hget : ∀ n, n ≤ xs.length → ∀ i j, i < n → j < s.sz → ((List.range n).flatMap X)[i * s.sz + j]? = (X i)[j]? := by
    intro n
    induction n with
    | zero => intro _ i j hi; omega
    | succ n ih =>
     intro hn i j hi hj
     rw [List.range_succ, List.flatMap_append]
     have hl := hlen n (by omega)
     rcases am i n with h1 | h1
     ·have : i * s.sz + s.sz ≤ n * s.sz := by rw [← aK]; exact aS _ h1
      rw [aO (by omega)]
      exact ih (by omega) i j h1 hj
     ·have : i = n := by omega
      subst this
      rw [aW (by omega), hl]
      simp
   refine ⟨(List.range xs.length).flatMap X, ⟨rfl, hlen _ (ak _), fun i x hx => ?_⟩, fun h => by (cases h), fun ad' h j u hu => ?_⟩
   ·have hi := (List.getElem?_eq_some_iff.1 hx).1
    have : (((List.range xs.length).flatMap X).drop (i * s.sz)).take s.sz = X i := by
     apply cq
     intro j
     rw [aP]
     split
     ·rename_i hj
      rw [aV]
      exact hget _ (ak _) i j hi hj
     ·rw [ct (by rw [(hX i hi).1]; omega)]
    rw [this]
    exact (hX i hi).2.1 x hx
   ·simp only [ab] at h
    subst h
    have hj := (List.getElem?_eq_some_iff.1 hu).1
    rw [hlen _ (ak _)] at hj
    have hz : 0 < s.sz := by
     rcases bZ s.sz with h | h
     ·rw [h] at hj; omega
     ·exact h
    have hq : j / s.sz < xs.length := by rw [Nat.div_lt_iff_lt_mul hz]; exact hj
    have hm : j % s.sz < s.sz := Nat.mod_lt _ hz
    have hjq : j / s.sz * s.sz + j % s.sz = j := by rw [Nat.mul_comm]; exact Nat.div_add_mod j s.sz
    have := (hX (j / s.sz) hq).2.2 (j % s.sz) u (by rw [← hget _ (ak _) _ _ hq hm, hjq]; exact hu)
    rw [hjq] at this
    exact this
 unfold ez at h
 split at h
 ·rename_i s' xs
  cases hd with | vs _ _ _ hk =>
  split at h
  ·rename_i hs hq
   cases hs
   simp only [ab] at h
   subst h
   exact fromK hk
  ·cases h
 ·rename_i n c
  obtain rfl := hd.sc_eq
  split at h
  ·rename_i hn
   subst hn
   simp only [ab] at h
   subst h
   exact ⟨none, c, rfl, [], ⟨rfl, by simp, fun i x hx => by simp at hx⟩, fun _ => rfl, fun ad h => by cases h⟩
  ·cases h
 ·rename_i n
  cases hd with | rw _ sz v hi hs =>
  split at h
  ·rename_i E s' xs hrow
   split at h
   ·rename_i hs' hq
    cases hs'
    simp only [ab] at h
    subst h
    obtain ⟨A, l, c, rfl⟩ := hs
    obtain ⟨h1, rfl, h3, h4⟩ := jN hH hrow hi
    refine ⟨A, c, rfl, ?_⟩
    rcases bZ xs.length with h0 | h0
    ·have : xs = [] := bn h0
     subst this
     exact ⟨[], ⟨rfl, by simp, fun i x hx => by simp at hx⟩, fun _ => rfl, fun ad _ j u hu => by simp at hu⟩
    ·obtain ⟨b, rfl⟩ := h4 h0
     obtain ⟨_, _, cs, k1, k2, k3⟩ := kK hH hrow hi
     refine ⟨cs, k1, fun h => by (cases h), fun ad had j u hu => ?_⟩
     simp only [ab] at had
     subst had
     rw [Addr.add_mid, bw]
     exact k3 j u hu
   ·cases h
  ·cases h
 ·rename_i n o l
  cases hd with | sl _ _ _ sz A A' len cap cap' hi hl h0' h1' hc' =>
  split at h
  ·rename_i E s' xs hrow
   split at h
   ·rename_i hs' hq
    cases hs'
    simp only [ab] at h
    subst h
    obtain ⟨h1, rfl, h3, h4⟩ := jN hH hrow hi
    have hlen : ((xs.drop o).take l).length = l := by simp; omega
    refine ⟨A', cap', by rw [hlen], ?_⟩
    rcases bZ l with h0 | h0
    ·subst h0
     simp only [List.take_zero]
     exact ⟨[], ⟨rfl, by simp, fun i x hx => by simp at hx⟩, fun _ => by trivial, fun ad _ j u hu => by simp at hu⟩
    ·obtain ⟨b, rfl, rfl⟩ := h1' h0
     obtain ⟨_, _, cs, k1, k2, k3⟩ := kK hH hrow hi
     subst h1
     have hcl := k1.2.1
     refine ⟨(cs.drop (o * s.sz)).take (l * s.sz), ⟨by rw [hlen], ?_, fun i x hx => ?_⟩, fun h => by (cases h), fun ad had j u hu => ?_⟩
     ·have : o * s.sz + l * s.sz ≤ xs.length * s.sz := by rw [← bH]; exact aS _ hl
      rw [hlen]
      simp
      omega
     ·have hx2 : xs[o + i]? = some x ∧ i < l := by
       rw [aP] at hx
       split at hx
       ·rename_i hil
        rw [aV] at hx
        exact ⟨hx, hil⟩
       ·cases hx
      have := k1.2.2 _ x hx2.1
      have hle : i * s.sz + s.sz ≤ l * s.sz := by rw [← aK]; exact aS _ hx2.2
      have e1 : (((cs.drop (o * s.sz)).take (l * s.sz)).drop (i * s.sz)).take s.sz = (cs.drop ((o + i) * s.sz)).take s.sz := by
       rw [List.drop_take, ch, bv, bH]
       congr 1
       omega
      rw [e1]
      exact this
     ·simp only [ab] at had
      subst had
      rw [Addr.add_mid]
      refine k3 _ u ?_
      rw [aP] at hu
      split at hu
      ·rw [aV] at hu
       exact hu
      ·cases hu
   ·cases h
  ·cases h
 ·rename_i n o p m l
  cases hd with | ps _ _ _ _ _ b cap hb hp hl hlm =>
  split at h
  ·rename_i cs hcs
   split at h
   ·rename_i s' m' xs r' hat
    split at h
    ·rename_i hmm
     subst hmm
     split at h
     ·rename_i hs' hq
      cases hs'
      simp only [ab] at h
      subst h
      obtain ⟨b', c, t, e1, e2, e3⟩ := hH.obj n cs hcs
      rw [hb] at e1
      simp only [ab, Ent.obj.injEq] at e1
      subst e1
      obtain ⟨cs', k1, k2⟩ := p9 hat (show lW (.off o :: p) from hp) e3
      cases k1 with
      | one _ _ u c2 hv hu hr => cases hv
      | arr _ _ _ _ c1 c2 hk h1 hr =>
       have hxl : xs.length = m' := hk.1
       have hlen : (xs.take l).length = l := by simp; omega
       refine ⟨some ⟨b, o + dO p, none⟩, cap, by rw [hlen], c1.take (l * s.sz), rh (n := m') hk hlm, fun h => by (cases h), fun ad had j u hu => ?_⟩
       simp only [ab] at had
       subst had
       have hu1 : c1[j]? = some u := by
        rw [aP] at hu
        split at hu
        ·exact hu
        ·cases hu
       have := k2 j u (by rw [aO (List.getElem?_eq_some_iff.1 hu1).1]; exact hu1)
       rw [Addr.add_mid, qX e2]
       simpa [dO, bD] using this
     ·cases h
    ·cases h
   ·cases h
  ·cases h
 ·cases h
theorem zR {base : Nat} {t ty e : TypeId} {i : TypeInfo} {size c : Nat} (ht : P.underlying t = some (.slice e)) (hi : P.info? e = some i) (v : Value) (n : Nat) (xs : List Value) (hown : w.ownsRow base e size v n xs) :
  (Builtin.append_ #[t, t] ty #[v, .slice none 0 c]).run P w = .ok v w := by
 rcases hown.2 with ⟨rfl, rfl⟩ | ⟨g, cap, cur, rfl, _, _, hnc, _⟩
 ·simp [Builtin.append_, run_underlying ht, sizeOf, typeInfo, hi, Builtin.lenOf, Builtin.firstCells]
 ·simp [Builtin.append_, run_underlying ht, sizeOf, typeInfo, hi, Builtin.lenOf, Builtin.firstCells, hnc, storeCells]
theorem ri {t ty e : TypeId} {s : Sh} {xs ys : List s.T} {v : Value} {cs : List Value} {d : DV} {u : Value} (hH : HR I w H) (hz : j9 P e s = true) (hu : P.underlying t = some (.slice e)) (hown : w.ownsRow 0 e s.sz v xs.length cs) (hk : (Sh.arr xs.length s).K I.R w xs cs)
  (hd : VR I w d u) (hy : ez H s d = some ys) (hb : (xs.length + ys.length) * eW P e ≤ 140737488355328) (h1 : 1 ≤ eW P e) :
  ∃ v' w' cs', (Builtin.append_ #[t, t] ty #[v, u]).run P w = .ok v' w' ∧ w'.ownsRow 0 e s.sz v' (xs ++ ys).length cs' ∧ w.grownBy w' v.ownBlock ∧ (v'.ownBlock = v.ownBlock ∨ v'.ownBlock = some w.heap.size) ∧ (Sh.arr (xs ++ ys).length s).K I.R w (xs ++ ys) cs' := by
 obtain ⟨i, z, hi, hz0, hsz, hp, hkz⟩ := Ay (w := w) (R := I.R) hz
 obtain ⟨A, c, rfl, news, k1, k2, k3⟩ := w9 hH hd hy
 have hbt : eW P e = i.bytes := by simp [eW, hi]
 rw [hbt] at hb h1
 have hcat : (Sh.arr (xs ++ ys).length s).K I.R w (xs ++ ys) (cs ++ news) := by
  refine ⟨rfl, by simp [hk.2.1, k1.2.1, bH], fun i x hx => ?_⟩
  rcases am i xs.length with h | h
  ·rw [aO h] at hx
   have := hk.2.2 i x hx
   have hle : i * s.sz + s.sz ≤ xs.length * s.sz := by rw [← aK]; exact aS _ h
   rw [b6 (by rw [hk.2.1]; omega), bC (by simp [hk.2.1]; omega)]
   exact this
  ·rw [aW h] at hx
   have := k1.2.2 _ x hx
   have e1 : i * s.sz = cs.length + (i - xs.length) * s.sz := by
    rw [hk.2.1, ← bH]
    congr 1
    omega
   rw [e1, List.drop_length_add_append]
   exact this
 cases A with
 | none =>
  have : ys = [] := k2 rfl
  subst this
  refine ⟨v, w, cs, zR hu hi v xs.length cs hown, by simpa using hown, ⟨rfl, rfl, rfl, ak _, fun _ _ _ => rfl⟩, .inl rfl, by rw [aG]; exact hk⟩
 | some ad =>
  have hzs : z.cells.size = s.sz := by simpa using Sh.K_len hkz
  have h63 : xs.length + ys.length ≤ maxLen := by
   have : (xs.length + ys.length) * 1 ≤ (xs.length + ys.length) * i.bytes := Nat.mul_le_mul_left _ h1
   simp only [maxLen]
   omega
  obtain ⟨v', w', g1, g2, g3, _, g5⟩ := run_append_own_at (P := P) w 0 t ty e i z s.sz i.bytes hu hi hz0 hsz rfl hzs hp v xs.length cs hown ad ys.length c news k1.2.1 (k3 ad rfl) (Sh.K_one k1) h63 hb (ay _)
  exact ⟨v', w', cs ++ news, g1, by simpa using g2, g3, g5, hcat⟩
theorem Nl {n sz : Nat} {v v' : Value} {E : TypeId} {s : Sh} {xs : List s.T} {cs : List Value} (hH : HR I w H) (h0 : I.ι n = some (.row sz v)) (hg : w.grownBy w' v.ownBlock) (hv : v'.ownBlock = v.ownBlock ∨ v'.ownBlock = some w.heap.size) (hown : w'.ownsRow 0 E s.sz v' xs.length cs) (hk : (Sh.arr xs.length s).K I.R w xs cs) :
  HR (I.put n (.row s.sz v')) w' ((H.sub n .none).set n (some (.row E s xs))) ∧ Ext I w (I.put n (.row s.sz v')) w' ∧ But n .none I (I.put n (.row s.sz v')) w w' := by
 have hlt : ∀ b, v'.ownBlock = some b → b < w'.heap.size := by
  intro b hb
  rcases hown.2 with ⟨rfl, _⟩ | ⟨g, cap, cur, rfl, _, hh, _⟩
  ·cases hb
  ·simp only [Value.ownBlock, ab] at hb
   subst hb
   exact (Array.getElem?_eq_some_iff.1 hh).1
 have hkeep : Keeps I.R (I.put n (.row s.sz v')).R w w' := ⟨fun _ h => h, fun b hb => hg.block b (hH.rlt b hb) (fun e => (hH.lt n _ b h0 (by simp [Ent.has, ← e])).2 hb), fun _ _ _ h => h⟩
 have hpf : ∀ {m : Nat} {t : TypeId} {B : Nat → Nat → Prop}, (I.put n (.row s.sz v')).ι m = some (.fam t B) ↔ I.ι m = some (.fam t B) := fun {m t B} => nP (fun t B h => by rw [h0] at h; cases h) (fun _ _ h => by cases h)
 have hbut : But n .none I (I.put n (.row s.sz v')) w w' := by
  refine ⟨hkeep, fun m b h => ?_, fun m sz' u hm h => by rw [dk hm]; exact h, fun s xs h => by cases h⟩
  rw [dk]
  ·exact h
  ·rintro rfl; rw [h0] at h; cases h
 refine ⟨HR.of (fun m b h => ?_) (fun m h => ?_) (fun m e b h hb => ?_) (fun m m' e e' b h h' hb hb' => ?_) (fun b h => ?_) (fun m m' t B B' h1 h2 => hH.one m m' t B B' (hpf.1 h1) (hpf.1 h2)), ⟨hbut.obj, fun _ h => h, fun b hb hn => hg.block b hb (fun e => hn n _ h0 (by simp [Ent.has, ← e])), fun m e b h hb => ?_, fun b h => .inl h, hg.size, hg.os, hg.tape, hg.output, fun _ _ _ h => h, fun t ht => ⟨rfl, fun m B h => ht m B (hpf.1 h)⟩⟩, hbut⟩
 ·by_cases hm : m = n
  ·subst hm
   rw [Heap.set_same] at h
   simp only [ab] at h
   subst h
   exact ⟨v', cs, du, hown, Sh.K_keep hkeep hk⟩
  ·rw [dS hm] at h
   simp only [Heap.sub, hm, aC] at h
   split at h
   ·rename_i b0 hb0
    simp only [ab] at h
    subst h
    have hother : ∀ e g, I.ι m = some e → e.has g → w'.heap[g]? = w.heap[g]? := fun e g h1 h2 => hg.block g (hH.lt m e g h1 h2).1 (fun e3 => hm (hH.inj m n e _ g h1 h0 h2 (by simp [Ent.has, ← e3])))
    cases b0 with
    | obj cs0 =>
     obtain ⟨b, c, t, k1, k2, k3⟩ := hH.obj m cs0 hb0
     exact ⟨b, c, t, by rw [dk hm]; exact k1, (hother _ b k1 rfl).trans k2, CR.sub hbut k3⟩
    | row E' s' xs' =>
     obtain ⟨u, cs', k1, k2, k3⟩ := hH.row m E' s' xs' hb0
     exact ⟨u, cs', by rw [dk hm]; exact k1, ox k2 (fun g hg' => hother _ g k1 hg'), Sh.K_keep hkeep k3⟩
    | mp ks vs =>
     obtain ⟨b, es, cl, val, k1, k2, k3, k4⟩ := hH.mp m ks vs hb0
     refine ⟨b, es, cl, val, by rw [dk hm]; exact k1, (hother _ b k1 rfl).trans k2, k3.map (kB ks vs), fun j d hd => ?_⟩
     rw [kB] at hd
     obtain ⟨d0, h0', rfl⟩ := Option.map_eq_some_iff.1 hd
     exact VR.sub hbut (k4 j d0 h0')
    | fam t k xs => exact FamR.keep hkeep (fun B hB => ⟨hpf.2 hB, rfl⟩) (hH.fam m t k xs hb0) hother
   ·cases h
 ·by_cases hm : m = n
  ·subst hm; rw [Heap.set_same] at h; cases h
  ·rw [dS hm] at h
   rw [dk hm]
   simp only [Heap.sub, hm, aC] at h
   split at h
   ·cases h
   ·rename_i hb0
    exact hH.dom m hb0
 ·by_cases hm : m = n
  ·subst hm
   rw [du] at h
   simp only [ab] at h
   subst h
   refine ⟨hlt b hb, fun hR => ?_⟩
   rcases hv with hv | hv
   ·exact (hH.lt m _ b h0 (by simp only [Ent.has] at hb ⊢; rw [← hv]; exact hb)).2 hR
   ·have := hH.rlt b hR
    simp only [Ent.has] at hb
    rw [hv] at hb
    simp only [ab] at hb
    omega
  ·rw [dk hm] at h
   obtain ⟨k1, k2⟩ := hH.lt m e b h hb
   exact ⟨bb k1 hg.size, k2⟩
 ·have key : ∀ m e b, m ≠ n → I.ι m = some e → e.has b → v'.ownBlock = some b → False := by
   intro m e b hm h1 h2 h3
   rcases hv with hv | hv
   ·exact hm (hH.inj m n e _ b h1 h0 h2 (by simp only [Ent.has]; rw [← hv]; exact h3))
   ·have := (hH.lt m e b h1 h2).1
    rw [hv] at h3
    simp only [ab] at h3
    omega
  by_cases hm : m = n
  ·by_cases hm' : m' = n
   ·rw [hm, hm']
   ·exfalso
    subst hm
    rw [du] at h
    rw [dk hm'] at h'
    simp only [ab] at h
    subst h
    exact key m' e' b hm' h' hb' hb
  ·by_cases hm' : m' = n
   ·exfalso
    subst hm'
    rw [du] at h'
    rw [dk hm] at h
    simp only [ab] at h'
    subst h'
    exact key m e b hm h hb hb'
   ·rw [dk hm] at h
    rw [dk hm'] at h'
    exact hH.inj m m' e e' b h h' hb hb'
 ·exact bb (hH.rlt b h) hg.size
 ·by_cases hm : m = n
  ·subst hm
   rw [du] at h
   simp only [ab] at h
   subst h
   rcases hv with hv | hv
   ·exact .inl ⟨m, _, h0, by simp only [Ent.has] at hb ⊢; rw [← hv]; exact hb⟩
   ·simp only [Ent.has] at hb
    rw [hv] at hb
    simp only [ab] at hb
    exact .inr (by omega)
  ·rw [dk hm] at h
   exact .inl ⟨m, e, h, hb⟩
end
section
variable {P : Program} {I : In} {w w' : World} {T : List DV} {a : Act} {H : Heap} {α : Type}
theorem Done.makes {o : Oper} {v : DV} {s : Sem Value} (hH : HR I w H) (ho : execOp a.eval o = (do Pure.pure (Next.value (← s)))) (h : jd P I w s v) : Done P o a I w H v none := by
 obtain ⟨u, h1, h2⟩ := h
 exact Done.pure hH (by rw [ho]; exact jL h1) h2
theorem VR.fn_case {F : Fn} {x y : List DV} {u : Value} (h : VR I w (.fn F x y) u) : ∃ x' y', u = .func F x' y' ∧ LR I w x x'.toList ∧ LR I w y y'.toList := by
 cases h with | fn _ _ _ a' b' h1 h2 => exact ⟨a', b', rfl, h1, h2⟩
theorem oy (hT : TR I w T a) (ps : Array Operand) : LR I w (ps.toList.map (dh T)) (ps.map a.eval).toList := by
 rw [cv]
 exact LR.map hT _
theorem LR.get : ∀ {ds : List DV} {vs : List Value} {i : Nat} {d : DV}, LR I w ds vs → ds[i]? = some d → ∃ v, vs[i]? = some v ∧ VR I w d v
 | _, _, _, _, .nil, h => by simp at h
 | _, _, 0, _, .cons d r u vs h hr, h1 => by
  simp only [bu, ab] at h1
  subst h1
  exact ⟨u, rfl, h⟩
 | _, _, i + 1, _, .cons d r u vs h hr, h1 => by
  simp only [cF] at h1 ⊢
  exact LR.get hr h1
theorem Fa {k : IntKind} : ∀ {r : List DV} {vs : List Value} {x : Int} {v : DV}, LR I w r vs → Cp k x r = some v → ∃ n, v = .sc (.int k n) ∧ (vs.foldlM Builtin.min2 (.int k x)).run P w = .ok (.int k n) w
 | _, _, x, v, .nil, h => by
  simp only [Cp, ab] at h
  exact ⟨x, h.symm, rfl⟩
 | _, _, x, v, .cons d r u vs hd hr, h => by
  simp only [Cp] at h
  split at h
  ·rename_i k' y
   obtain rfl := hd.sc_eq
   split at h
   ·rename_i hk
    subst hk
    obtain ⟨n, h1, h2⟩ := Fa hr h
    exact ⟨n, h1, by simp only [List.foldlM_cons, Builtin.min2]; exact h2⟩
   ·cases h
  ·cases h
theorem Fb {k : IntKind} : ∀ {r : List DV} {vs : List Value} {x : Int} {v : DV}, LR I w r vs → Cq k x r = some v → ∃ n, v = .sc (.int k n) ∧ (vs.foldlM Builtin.max2 (.int k x)).run P w = .ok (.int k n) w
 | _, _, x, v, .nil, h => by
  simp only [Cq, ab] at h
  exact ⟨x, h.symm, rfl⟩
 | _, _, x, v, .cons d r u vs hd hr, h => by
  simp only [Cq] at h
  split at h
  ·rename_i k' y
   obtain rfl := hd.sc_eq
   split at h
   ·rename_i hk
    subst hk
    obtain ⟨n, h1, h2⟩ := Fb hr h
    exact ⟨n, h1, by simp only [List.foldlM_cons, Builtin.max2]; exact h2⟩
   ·cases h
  ·cases h
theorem jq {o : Oper} {c : Call} {b : Builtin} {s : Sem Value} (ho : o.op = .call c) (hc : c.callee = .builtin b) (hb : builtin b c.argTypes o.type (c.args.map fun | .const _ => true | _ => false) (c.args.map a.eval) = (do pure (Next.value (← s)))) : execOp a.eval o = (do pure (Next.value (← s))) := by
 unfold execOp
 rw [ho]
 simp only [resolve, hc]
 exact hb
theorem kM {d : Nat} {o : Oper} {b : Blk} {v : Nat → DV} {k : DV → fL → Option α} {r : α} (h : gc d o H b v k = some r) : ∃ n, H n = none ∧ k (v n) (some (n, b)) = some r := by
 unfold gc at h
 simp only at h
 split at h
 ·cases h
 ·rename_i hn
  exact ⟨_, hn, h⟩
theorem mf {β : Type} {k : DV → Option β} {x : Option DV} {r : β} (h : (match x with | some x => k x | none => none) = some r) : ∃ y, x = some y ∧ k y = some r := by
 cases x with
 | none => cases h
 | some y => exact ⟨y, rfl, h⟩
theorem Nm (hT : TR I w T a) (x : Option Operand) : (x.map (dh T) = none ∧ x.map a.eval = none) ∨ ∃ d u, x.map (dh T) = some d ∧ x.map a.eval = some u ∧ VR I w d u := by
 cases x with
 | none => exact .inl ⟨rfl, rfl⟩
 | some y => exact .inr ⟨_, _, rfl, rfl, dP hT y⟩
end
section
variable {P : Program} {I : In} {w w' : World} {T : List DV} {a : Act} {H : Heap} {α : Type}
theorem xb : ∀ {ks : List (List Int)} {vs : List DV} {z : DV} {n : Int} {k : DV → Bool → Option α} {r : α}, wZ ks vs z n k = some r → (∃ d, d6 ks vs n = some d ∧ k d true = some r) ∨ (d6 ks vs n = none ∧ k z false = some r)
 | [], vs, z, n, k, r, h => by
  refine .inr ⟨by cases vs <;> rfl, ?_⟩
  cases vs <;> exact h
 | l :: ks, [], z, n, k, r, h => .inr ⟨rfl, h⟩
 | l :: ks, d :: vs, z, n, k, r, h => by
  simp only [wZ] at h
  simp only [d6]
  split at h
  ·rename_i hc
   rw [if_pos hc]
   exact .inl ⟨d, rfl, h⟩
  ·rename_i hc
   rw [if_neg hc]
   exact xb h
theorem J1 {d : DV} {v : Value} {ks : List (List Int)} {vs : List DV} (hH : HR I w H) (hv : VR I w d v) (h : lu H d = some (ks, vs)) : ∃ b es clock val, v = .map (some b) ∧ w.heap[b]? = some (.map es clock) ∧ TabE ks vs val es.toList ∧ ∀ m d, d6 ks vs m = some d → VR I w d (val m) := by
 unfold lu at h
 split at h
 ·simp only [ab, ah] at h
  obtain ⟨rfl, rfl⟩ := h
  cases hv with | tab _ _ val b es cl hR hb hE hL => exact ⟨b, es, cl, val, rfl, hb, hE, hL⟩
 ·rename_i n
  split at h
  ·rename_i ks' vs' hn
   simp only [ab, ah] at h
   obtain ⟨rfl, rfl⟩ := h
   cases hv with | mh _ b hi =>
   obtain ⟨b', es, cl, val, k1, k2, k3, k4⟩ := hH.mp n _ _ hn
   rw [hi] at k1
   simp only [ab, Ent.obj.injEq] at k1
   subst k1
   exact ⟨b, es, cl, val, rfl, k2, k3, k4⟩
  ·cases h
 ·cases h
theorem Gd {o : Oper} {t : TypeId} {n : Nat} (ho : o.op = .makeMap t none) (hH : HR I w H) (hn : H n = none) : Done P o a I w H (.mh n) (some (n, .mp [] [])) := by
 have he : ∀ b, (Ent.obj w.heap.size).has b → b = w.heap.size := fun b h => h.symm
 have hf : ∀ t B, Ent.obj w.heap.size ≠ .fam t B := fun _ _ h => by cases h
 have hr : (execOp a.eval o).run P w = .ok (.value (.map (some w.heap.size))) (w.alloc (.map #[] 0)) := by
  unfold execOp
  rw [ho]
  refine jL ?_
  simp [Instr.makeMap, Sem.run_bind]
 refine ⟨I.put n (.obj w.heap.size), _, _, hr, Ext.alloc hH hn he hf, Rows.alloc hH hn _, ?_, ?_⟩
 ·refine HR.alloc hH hn he hf ⟨w.heap.size, #[], 0, fun _ => undef, du, re w _, ⟨fun e h => by simp at h, fun e h => by simp at h, fun m h => by simp [d6] at h⟩, fun m d h => by simp [d6] at h⟩
 ·exact VR.mh n w.heap.size du
theorem Ge {t kt e : TypeId} {b clock : Nat} {es : Array MapEntry} {j : Int} {v : Value} (ht : P.underlying t = some (.map kt e)) (hk : P.underlying kt = some (.int .i64)) (hb : w.heap[b]? = some (.map es clock)) (hkeys : ∀ x ∈ es.toList, ∃ n, x.key = .int .i64 n) (hfr : ∀ x ∈ es.toList, x.key ≠ .int .i64 j) :
  (Instr.mapUpdate t (.map (some b)) (.int .i64 j) v).run P w = .ok () { w with heap := w.heap.setIfInBounds b (.map (es.push { key := .int .i64 j, val := v, born := clock }) (clock + 1)) } := by
 have hK : MapKept.IsKey (.int .i64) (.int .i64 j) := rfl
 have hck := MapKept.run_checkKey (w := w) hk hK false 9999
 rcases MapKept.findNow_spec hK es.toList 0 (fun x hx => by obtain ⟨m, hm⟩ := hkeys x hx; rw [hm]; rfl) with ⟨h1, h2⟩ | ⟨i, e0, h1, h2, h3⟩
 ·have hf := MapKept.run_findKey (w := w) hk h1
  simp [Instr.mapUpdate, run_underlying ht, MapKept.run_getObj_map hb, hck, hf, MapKept.run_setObj_map _ hb, Result.andThen]
 ·exact absurd h3 (hfr e0 (cE h2))
theorem HC {o : Oper} {t kt e : TypeId} {m i x : Operand} {n : Nat} {j : Int} {ks : List (List Int)} {vs : List DV} {dx : DV} (ho : o.op = .insert t m i x) (hH : HR I w H) (ht : P.underlying t = some (.map kt e)) (hk : P.underlying kt = some (.int .i64)) (hn : H n = some (.mp ks vs)) (hm : VR I w (.mh n) (a.eval m)) (hi : a.eval i = .int .i64 j) (hx : VR I w dx (a.eval x)) (hfr : (d6 ks vs j).isNone = true) :
  Done P o a I w H .undef (some (n, .mp ([j] :: ks) (dx :: vs))) := by
 obtain ⟨b, es, cl, val, k1, k2, k3, k4⟩ := hH.mp n _ _ hn
 generalize hmv : a.eval m = mv at hm
 cases hm with | mh _ b' hb' =>
 rw [k1] at hb'
 simp only [ab, Ent.obj.injEq] at hb'
 subst hb'
 have hno : ∀ x ∈ es.toList, x.key ≠ .int .i64 j := fun x hx hxk => by
  have := (k3.here x hx j hxk).2
  rw [Option.isNone_iff_eq_none] at hfr
  rw [hfr] at this
  cases this
 have hrun := Ge (v := a.eval x) ht hk k2 k3.keys hno
 have hr : (execOp a.eval o).run P w = .ok .skip { w with heap := w.heap.setIfInBounds b (.map (es.push { key := .int .i64 j, val := a.eval x, born := cl }) (cl + 1)) } := by
  unfold execOp
  rw [ho]
  show ((do Instr.mapUpdate t (a.eval m) (a.eval i) (a.eval x); pure Next.skip) : Sem Next).run P w = _
  rw [hmv, hi]
  simp [Sem.run_bind, hrun]
 obtain ⟨g1, g2⟩ := MapKept.heap_set (o' := .map (es.push { key := .int .i64 j, val := a.eval x, born := cl }) (cl + 1)) k2
 have hbk : (Ent.obj b).has b := rfl
 refine ⟨I, _, _, hr, Ext.write k1 hbk g2 (by simp) rfl rfl rfl, ⟨fun _ _ _ h => h⟩, ?_, rfl⟩
 have hs : Same I I w { w with heap := w.heap.setIfInBounds b (.map (es.push { key := .int .i64 j, val := a.eval x, born := cl }) (cl + 1)) } := Same.write hH k1 hbk g2
 refine HR.write hH k1 hbk g2 (by simp) ⟨b, _, _, fun q => if q = j then a.eval x else val q, k1, g1, ⟨fun e he => ?_, fun e he q hq => ?_, fun q hq => ?_⟩, fun q d hd => ?_⟩
 ·simp only [cI, aA, ao] at he
  rcases he with he | rfl
  ·exact k3.keys e he
  ·exact ⟨j, rfl⟩
 ·simp only [cI, aA, ao] at he
  rcases he with he | rfl
  ·have hne : q ≠ j := fun h => hno e he (by rw [hq, h])
   obtain ⟨h1, h2⟩ := k3.here e he q hq
   refine ⟨by simp only [hne, aC]; exact h1, ?_⟩
   simp only [d6]
   split
   ·rfl
   ·exact h2
  ·simp only [Value.int.injEq, true_and] at hq
   subst hq
   simp [d6]
 ·by_cases hqj : q = j
  ·exact ⟨_, by simp only [cI, aA, ao]; exact .inr rfl, by rw [hqj]⟩
  ·have hq' : (d6 ks vs q).isSome = true := by simpa [d6, hqj] using hq
   obtain ⟨e0, h1, h2⟩ := k3.all q hq'
   exact ⟨e0, by simp only [cI, aA]; exact .inl h1, h2⟩
 ·by_cases hqj : q = j
  ·subst hqj
   simp only [d6, List.any_cons, List.any_nil, bc, bo, if_true, ab] at hd
   subst hd
   simp only [if_true]
   exact VR.keep hs hx
  ·have hq' : d6 ks vs q = some d := by simpa [d6, hqj] using hd
   simp only [hqj, aC]
   exact VR.keep hs (k4 q d hq')
theorem J2 {t kt e : TypeId} {b clock : Nat} {es : Array MapEntry} {ks : List (List Int)} {vs : List DV} {val : Int → Value} {n : Int} {c : Bool} {z : Value} (ht : P.underlying t = some (.map kt e)) (hk : P.underlying kt = some (.int .i64)) (hz : (zeroValue e).run P w = .ok z w) (hb : w.heap[b]? = some (.map es clock)) (hE : TabE ks vs val es.toList) :
  ((d6 ks vs n).isSome = true ∧ (Instr.lookup t (.map (some b)) (.int .i64 n) c).run P w = .ok (if c then .tuple #[val n, .bool true] else val n) w) ∨ (d6 ks vs n = none ∧ (Instr.lookup t (.map (some b)) (.int .i64 n) c).run P w = .ok (if c then .tuple #[z, .bool false] else z) w) := by
 have hK : MapKept.IsKey (.int .i64) (.int .i64 n) := rfl
 have hck := MapKept.run_checkKey (w := w) hk hK es.isEmpty 9999
 rcases MapKept.findNow_spec hK es.toList 0 (fun x hx => by obtain ⟨m, hm⟩ := hE.keys x hx; rw [hm]; rfl) with ⟨h1, h2⟩ | ⟨j, e0, h1, h2, h3⟩
 ·refine .inr ⟨?_, ?_⟩
  ·cases hp : d6 ks vs n with
   | none => rfl
   | some u =>
    obtain ⟨e0, he, hk0⟩ := hE.all n (by rw [hp]; rfl)
    exact absurd hk0 (h2 e0 he)
  ·have hf := MapKept.run_findKey (w := w) hk h1
   simp [Instr.lookup, run_underlying ht, MapKept.run_getObj_map hb, hck, hf, hz, Result.andThen]
 ·obtain ⟨k1, k2⟩ := hE.here e0 (cE h2) n h3
  refine .inl ⟨k2, ?_⟩
  rw [k1]
  have hf := MapKept.run_findKey (w := w) hk h1
  simp [Instr.lookup, run_underlying ht, MapKept.run_getObj_map hb, hck, hf, Result.andThen]
end
theorem HR.grow {I I' : In} {w w' : World} {H : Heap} (hH : HR I w H) (hι : I'.ι = I.ι) (hF : I'.R.fam = I.R.fam) (hR : ∀ b, I'.R b ↔ I.R b ∨ (w.heap.size ≤ b ∧ b < w'.heap.size)) (hw : ∀ b, b < w.heap.size → w'.heap[b]? = w.heap[b]?) (hsz : w.heap.size ≤ w'.heap.size) : HR I' w' H ∧ Same I I' w w' := by
 have hs : Same I I' w w' := ⟨⟨fun b h => (hR b).2 (.inl h), fun b h => hw b (hH.rlt b h), fun t i b h => by rw [hF]; exact h⟩, fun n b h => by rw [hι]; exact h, fun n sz v h => by rw [hι]; exact h⟩
 refine ⟨HR.of (fun n b hb => (hH.br hb).keep hs (fun t B h => ⟨by rw [hι]; exact h, by rw [hF]⟩) (fun e g h1 h2 => hw g (hH.lt n e g h1 h2).1)) (fun n h => by rw [hι]; exact hH.dom n h) (fun n e b h1 h2 => ?_) (fun n m e e' b h1 h2 h3 h4 => ?_) (fun b h => ?_) (fun n m t B B' h1 h2 => by rw [hι] at h1 h2; exact hH.one n m t B B' h1 h2), hs⟩
 ·rw [hι] at h1
  obtain ⟨k1, k2⟩ := hH.lt n e b h1 h2
  refine ⟨by omega, fun h => ?_⟩
  rcases (hR b).1 h with h | h
  ·exact k2 h
  ·omega
 ·rw [hι] at h1 h2
  exact hH.inj n m e e' b h1 h2 h3 h4
 ·rcases (hR b).1 h with h | h
  ·have := hH.rlt b h; omega
  ·exact h.2
section
variable {α : Type} {P : Program} {I : In} {w : World} {T : List DV} {a : Act} {H : Heap}
theorem HD {xs : List Int} {news : List Value} (h : (Sh.arr xs.length (.int .u8)).K I.R w xs news) : news = xs.map (Value.int .u8) := by
 obtain ⟨_, h2, h3⟩ := h
 have hl : news.length = xs.length := by simpa [Sh.sz] using h2
 refine List.ext_getElem (by simpa using hl) fun i h1 h4 => ?_
 have hi : i < xs.length := by omega
 have := h3 i xs[i] (ax hi)
 simp only [Sh.sz, Nat.mul_one, Sh.K] at this
 have h5 : (news.drop i).take 1 = [news[i]] := by
  rw [cb h1]
  rfl
 rw [h5] at this
 simpa using this
theorem HE {src dst e : TypeId} {A : Option Addr} {c : Nat} {xs : List Int} {news : List Value} (hs : P.underlying src = some (.slice e)) (he : P.underlying e = some (.int .u8)) (hd : P.underlying dst = some .string) (n1 : (Sh.arr xs.length (.int .u8)).K I.R w xs news) (n2 : A = none → xs = []) (n3 : ∀ ad, A = some ad → ∀ j u, news[j]? = some u → w.cell? (ad.add j) = some u) : (convert src dst (.slice A xs.length c)).run P w = .ok (.string (fc xs)) w := by
 cases A with
 | none =>
  have := n2 rfl
  subst this
  exact run_convert_bytes_nil w src e hs he 0 c dst hd
 | some ad =>
  have hn := HD n1
  subst hn
  have hl : (loadCells ad xs.length).run P w = .ok (xs.map (Value.int .u8)).toArray w := by
   have := run_loadCells_list (P := P) w ad (xs.map (Value.int .u8)) (fun j v hj => n3 ad rfl j v hj)
   simpa using this
  rw [run_convert_bytes_string w src dst e _ _ c hs he hd, run_bytesToString w _ _ c xs hl, foldl_push_bytes]
  simp [fc, ByteArray.empty, ByteArray.emptyWithCapacity]
  rfl
theorem Mt {o : Oper} {src dst e : TypeId} {s : ByteArray} {x : Operand} (hH : HR I w H) (ho : execOp a.eval o = (do Pure.pure (Next.value (← convert src dst (a.eval x))))) (hv : a.eval x = .string s) (hs : P.underlying src = some .string) (hd : P.underlying dst = some (.slice e)) (he : P.underlying e = some (.int .u8)) : Done P o a I w H (.vs (.int .u8) (vz s)) none := by
 have hr := run_bytes_of_string (P := P) w src dst e s hs hd he
 generalize hcap : grownCap w s.size 0 e = cap at hr
 have hge : s.size ≤ cap := by rw [← hcap]; exact grownCap_ge w s.size 0 e
 generalize hob : Obj.cells (bytesRow s cap) e ((bytesRow s cap).size, (bytesRow s cap).size + 1) = ob at hr
 have hsz : (w.drew.alloc ob).heap.size = w.heap.size + 1 := by
  show (w.heap.push ob).size = _
  simp
 have hold : ∀ b, b < w.heap.size → (w.drew.alloc ob).heap[b]? = w.heap[b]? := fun b hb => by
  show (w.heap.push ob)[b]? = _
  rw [Array.getElem?_push_lt hb, Array.getElem?_eq_getElem hb]
 obtain ⟨q1, q2⟩ := hH.grow (I' := ⟨I.ι, ⟨fun b => I.R b ∨ (w.heap.size ≤ b ∧ b < (w.drew.alloc ob).heap.size), I.R.fam⟩⟩) (w' := w.drew.alloc ob) rfl rfl (fun b => Iff.rfl) hold (by omega)
 refine ⟨⟨I.ι, ⟨fun b => I.R b ∨ (w.heap.size ≤ b ∧ b < (w.drew.alloc ob).heap.size), I.R.fam⟩⟩, w.drew.alloc ob, .value (.slice (some ⟨w.heap.size, 0, none⟩) s.size cap), ?_, ⟨fun n b h => h, fun b h => .inl h, fun b hb _ => hold b hb, fun n e b h hb => .inl ⟨n, e, h, hb⟩, fun b h => ?_, by omega, rfl, rfl, rfl, fun _ _ _ h => h, fun _ h => ⟨rfl, h⟩⟩, ⟨fun n sz v h => h⟩, q1, ?_⟩
 ·rw [ho, hv]
  exact jL hr
 ·rcases h with h | h
  ·exact .inl h
  ·exact .inr (.inr h.1)
 ·have hlen : (vz s).length = s.size := by
   show (s.data.toList.map _).length = s.data.size
   rw [cd, Array.length_toList]
  refine .vs _ _ _ ⟨some ⟨w.heap.size, 0, none⟩, cap, by rw [hlen], by omega, fun _ => ⟨_, rfl, rfl, .inr ⟨ak _, (by show w.heap.size < (w.drew.alloc ob).heap.size; omega)⟩, fun i y hy => ?_⟩⟩
  refine ⟨[.int .u8 y], rfl, rfl, fun j u hu => ?_⟩
  have hi : i < s.data.size := by
   have := (List.getElem?_eq_some_iff.1 hy).1
   rw [hlen] at this
   exact this
  have hj : j = 0 := by
   have := (List.getElem?_eq_some_iff.1 hu).1
   simp at this
   omega
  subst hj
  simp only [bu, ab] at hu
  subst hu
  have hy2 : y = (s.data[i].toNat : Int) := by
   have := (List.getElem?_eq_some_iff.1 hy).2
   simp [vz] at this
   exact this.symm
  have ha : Addr.add ⟨w.heap.size, 0, none⟩ (i * Sh.sz (.int .u8) + 0) = ⟨w.heap.size, i, none⟩ := by
   unfold Addr.add
   split <;> simp_all [Sh.sz]
  rw [ha, ← hob]
  have := World.cell?_alloc_mark w.drew (bytesRow s cap) e ((bytesRow s cap).size, (bytesRow s cap).size + 1) i
  rw [show w.drew.heap.size = w.heap.size from rfl] at this
  rw [this, bytesRow_at s cap i hi, hy2]
theorem HF {d : Nat} {o : Oper} {k : DV → fL → Option α} {r : α} (hT : TR I w T a) (hH : HR I w H) (h : eO P d o T H k = some r) : ∃ v act, k v act = some r ∧ Done P o a I w H v act := by
 unfold eO at h
 simp only at h
 split at h
 ·rename_i x ho
  exact ⟨_, _, h, Done.pure hH (Hs ho) (dP hT x)⟩
 ·rename_i x ho
  exact ⟨_, _, h, Done.pure hH (EG ho) (dP hT x)⟩
 ·rename_i c x y ho
  obtain ⟨v, h1, h2⟩ := JX (P := P) (dP hT c) (dP hT x) (dP hT y) h
  refine ⟨_, _, h1, ?_⟩
  obtain ⟨u, g1, g2⟩ := h2
  refine Done.pure hH ?_ g2
  unfold execOp
  rw [ho]
  simp only [Sem.run_bind] at g1 ⊢
  cases hb : (asBool (a.eval c)).run P w <;> rw [hb] at g1 <;> simp_all
 ·rename_i e ho
  split at h
  ·rename_i its hz
   obtain ⟨n, hn, h1⟩ := kM h
   exact ⟨_, _, h1, JY ho hH hn hz⟩
  ·cases h
 ·rename_i e x ho
  split at h
  ·rename_i its hz
   split at h
   ·rename_i hs
    obtain ⟨n, hn, h1⟩ := kM h
    exact ⟨_, _, h1, Nj ho hT hH hn hs hz⟩
   ·cases h
  ·cases h
 ·rename_i t ps ho
  split at h
  ·rename_i its hz
   split at hz
   ·rename_i hne
    split at h
    ·rename_i out hf
     exact ⟨_, _, h, J0 ho hT hH hne hz hf⟩
    ·cases h
   ·cases hz
  ·cases h
 ·rename_i t n ps ho
  split at h
  ·rename_i e hu
   split at h
   ·rename_i s hsh
    split at h
    ·rename_i hi
     split at h
     ·rename_i hs
      split at h
      ·rename_i xs hx
       split at h
       ·rename_i h1
        split at h
        ·rename_i h2
         simp only [aj, aE, av, ai] at h2
         obtain ⟨m, hn, h3⟩ := kM h
         exact ⟨_, _, h3, BL ho hT hH hn hu hi hs hx h1 h2.1 h2.2⟩
        ·cases h
       ·cases h
      ·cases h
     ·cases h
    ·cases h
   ·cases h
  ·cases h
 ·rename_i t x ho
  obtain ⟨v, h1, h2⟩ := mf h
  exact ⟨_, _, h2, Mn ho hT hH h1⟩
 ·rename_i t x y ho
  split at h
  ·rename_i q hq
   exact ⟨_, _, h, JZ ho hT hH hq⟩
  ·cases h
 ·rename_i x ho
  have hx := dP hT x
  generalize hd : dh T x = dx at h hx
  generalize hv : a.eval x = u at hx
  have he : ∀ {v : Value}, u = v → (match v with | .pointer (some _) => True | .func (.func _) _ _ => True | _ => False) → (execOp a.eval o).run P w = .ok (.value v) w := by
   rintro v rfl hm
   unfold execOp
   rw [ho]
   simp only [hv]
   cases u with
   | pointer q => cases q with
    | none => exact hm.elim
    | some q => rfl
   | func F x y => cases F with
    | func f => rfl
    | _ => exact hm.elim
   | _ => exact hm.elim
  split at h
  ·refine ⟨_, _, h, ?_⟩
   cases hx with | ptr _ _ _ b h1 hp => exact Done.pure hH (he rfl trivial) (.ptr _ _ _ b h1 hp)
  ·refine ⟨_, _, h, ?_⟩
   cases hx with | rp _ _ _ _ b len cap h1 hi hp => exact Done.pure hH (he rfl trivial) (.rp _ _ _ _ b len cap h1 hi hp)
  ·refine ⟨_, _, h, ?_⟩
   cases hx with | pi _ ad cs h0 hR him hC hc => exact Done.pure hH (he rfl trivial) (.pi _ ad cs h0 hR him hC hc)
  ·refine ⟨_, _, h, ?_⟩
   cases hx with | fn F q1 q2 a' b' h1 h2 => exact Done.pure hH (he rfl trivial) (.fn _ _ _ a' b' h1 h2)
  ·cases h
 ·rename_i op t x y sp ho
  obtain ⟨v, h1, h2⟩ := Mq (P := P) (x := x) (y := y) (dP hT x) (dP hT y) h
  exact ⟨_, _, h1, Done.makes hH (by unfold execOp; rw [ho]) h2⟩
 ·rename_i op t x ho
  have hx := dP hT x
  generalize hd : dh T x = dx at h hx
  generalize hv : a.eval x = u at hx
  split at h
  ·obtain rfl := hx.sc_eq
   exact ⟨_, _, h, Done.makes hH (by unfold execOp; rw [ho]) ⟨_, by rw [hv]; rfl, .sc _ rfl⟩⟩
  ·obtain rfl := hx.sc_eq
   exact ⟨_, _, h, Done.makes hH (by unfold execOp; rw [ho]) ⟨_, by rw [hv]; rfl, .sc _ rfl⟩⟩
  ·cases h
 ·rename_i s t x ho
  have hx := dP hT x
  generalize hd : dh T x = dx at h hx
  generalize hv : a.eval x = u at hx
  split at h
  ·rename_i hs ht
   obtain rfl := hx.sc_eq
   exact ⟨_, _, h, Done.makes hH (by unfold execOp; rw [ho]) ⟨_, by rw [hv]; simp [convert, run_underlying hs, run_underlying ht, Conv.intToInt], .sc _ rfl⟩⟩
  ·rename_i hs ht
   obtain rfl := hx.sc_eq
   exact ⟨_, _, h, Done.makes hH (by unfold execOp; rw [ho]) ⟨_, by rw [hv]; simp [convert, run_underlying hs, run_underlying ht], .sc _ rfl⟩⟩
  ·rename_i e hs ht
   split at h
   ·rename_i he
    split at h
    ·rename_i xs hxs
     obtain ⟨A, c, rfl, news, n1, n2, n3⟩ := w9 hH hx hxs
     refine ⟨_, _, h, Done.makes hH (by unfold execOp; rw [ho]) ⟨.string (fc xs), ?_, .sc _ rfl⟩⟩
     rw [hv]
     exact HE hs he ht n1 n2 n3
    ·cases h
   ·cases h
  ·rename_i e s hs ht
   split at h
   ·rename_i he
    obtain rfl := hx.sc_eq
    exact ⟨_, _, h, Mt hH (by unfold execOp; rw [ho]) (by rw [hv]) hs ht he⟩
   ·cases h
  ·cases h
 ·rename_i F q1 q2 ho
  exact ⟨_, _, h, Done.makes hH (by unfold execOp; rw [ho]) ⟨_, rfl, .fn _ _ _ _ _ (oy hT q1) (oy hT q2)⟩⟩
 ·rename_i t l c ho
  split at h
  ·rename_i e hu
   split at h
   ·rename_i s n m hsh hl hc
    split at h
    ·rename_i h1
     split at h
     ·rename_i hz
      obtain ⟨q, hn, h3⟩ := kM h
      exact ⟨_, _, h3, Cy ho hT hH hn hu hl hc h1 hz⟩
     ·cases h
    ·cases h
   ·cases h
  ·cases h
 ·rename_i t x lo hi mx ho
  obtain ⟨v, h1, h2⟩ := Hz (P := P) (mx' := mx.map a.eval) hH (dP hT x) (Nm hT lo) (Nm hT hi) (fun e => by cases mx <;> simp_all) h
  exact ⟨_, _, h1, Done.makes hH (by unfold execOp; rw [ho]) h2⟩
 ·rename_i t x f ho
  obtain ⟨v, h1, h2⟩ := mf h
  exact ⟨_, _, h2, Done.makes hH (by unfold execOp; rw [ho]) (BK (dP hT x) h1)⟩
 ·rename_i t x f ho
  obtain ⟨v, h1, h2⟩ := mf h
  exact ⟨_, _, h2, Done.makes hH (by unfold execOp; rw [ho]) (Hy (dP hT x) h1)⟩
 ·rename_i t x i ho
  have hi := dP hT i
  split at h
  ·rename_i kd j hj
   rw [hj] at hi
   obtain ⟨v, h1, h2⟩ := EH (P := P) (kd := kd) hH (dP hT x) h
   exact ⟨_, _, h1, Done.makes hH (by unfold execOp; rw [ho]) (hi.sc_eq ▸ h2)⟩
  ·cases h
 ·rename_i t x i ho
  have hi := dP hT i
  split at h
  ·rename_i kd j hj
   rw [hj] at hi
   obtain ⟨v, h1, h2⟩ := Hx (P := P) (kd := kd) (dP hT x) h
   exact ⟨_, _, h1, Done.makes hH (by unfold execOp; rw [ho]) (hi.sc_eq ▸ h2)⟩
  ·cases h
 ·rename_i t ho
  split at h
  ·rename_i kt e ht
   obtain ⟨n, h1, h2⟩ := kM h
   exact ⟨_, _, h2, Gd ho hH h1⟩
  ·cases h
 ·rename_i t m i x ho
  have hm := dP hT m
  have hi := dP hT i
  split at h
  ·rename_i kt e n j ht hmd hid
   split at h
   ·rename_i ks vs hk hn
    split at h
    ·rename_i hfr
     rw [hid] at hi
     rw [hmd] at hm
     exact ⟨_, _, h, HC ho hH ht hk hn hm hi.sc_eq (dP hT x) hfr⟩
    ·cases h
   ·cases h
  ·cases h
 ·rename_i t x i c ho
  have hx := dP hT x
  have hi := dP hT i
  split at h
  ·rename_i kt e ks vs n ht hxd hid
   split at h
   ·rename_i it hk hit
    split at h
    ·rename_i z hz
     rw [hid] at hi
     obtain ⟨b, es, cl, us, hv, hb, hE, hL⟩ := J1 hH hx hxd
     have hz' : (zeroValue e).run P w = .ok z w := by simp [zeroValue, typeInfo, Sem.run_bind, hit, hz]
     rcases J2 (c := c) (n := n) ht hk hz' hb hE with ⟨g1, g2⟩ | ⟨g1, g2⟩
     ·rcases xb h with ⟨d, k1, k3⟩ | ⟨k1, k3⟩
      ·have k2 := hL n d k1
       refine ⟨_, _, k3, Done.makes hH (by unfold execOp; rw [ho]) ⟨_, by rw [hv, hi.sc_eq]; exact g2, ?_⟩⟩
       cases c
       ·exact k2
       ·exact .tup _ _ (.cons _ _ _ _ k2 (.cons _ _ _ _ (.sc _ rfl) .nil))
      ·rw [k1] at g1; cases g1
     ·rcases xb h with ⟨d, k1, k3⟩ | ⟨k1, k3⟩
      ·rw [g1] at k1; cases k1
      ·refine ⟨_, _, k3, Done.makes hH (by unfold execOp; rw [ho]) ⟨_, by rw [hv, hi.sc_eq]; exact g2, ?_⟩⟩
       cases c
       ·exact yq z
       ·exact .tup _ _ (.cons _ _ _ _ (yq z) (.cons _ _ _ _ (.sc _ rfl) .nil))
    ·cases h
   ·cases h
  ·cases h
 ·rename_i x i ho
  have hx := dP hT x
  generalize hd : dh T x = dx at h hx
  generalize hv : a.eval x = u at hx
  split at h
  ·rename_i vs
   obtain ⟨v, h1, h2⟩ := mf h
   cases hx with | tup _ vs' hL =>
   obtain ⟨u, g1, g2⟩ := hL.get h1
   refine ⟨_, _, h2, Done.makes hH (by unfold execOp; rw [ho]) ⟨u, ?_, g2⟩⟩
   rw [cr] at g1
   simp [Instr.extract, hv, g1]
  ·cases h
 ·rename_i c ho
  split at h
  ·rename_i hc
   split at h
   ·rename_i x t hx ht
    split at h
    ·rename_i n hn
     refine ⟨_, _, h, Done.makes hH (jq (b := .len) (s := Builtin.len_ c.argTypes o.type (c.args.map a.eval)) ho hc rfl) ⟨_, ?_, .sc _ rfl⟩⟩
     have e1 : c.args.map a.eval = #[a.eval x] := by
      apply Array.toList_inj.1
      rw [cv, hx]; rfl
     have := Ms (ty := o.type) hH (dP hT x) hn
     rw [e1]
     have e2 : ∀ (A : Array TypeId), A[0]? = some t → Builtin.len_ A o.type #[a.eval x] = Builtin.len_ #[t] o.type #[a.eval x] := by
      intro A hA
      unfold Builtin.len_
      have : A.getD 0 0 = t := by simp [hA]
      simp [hA]
     rw [e2 _ ht]
     exact this
    ·cases h
   ·cases h
  ·rename_i hc
   split at h
   ·rename_i kk x rr hx
    obtain ⟨v, h1, h2⟩ := mf h
    have hL := oy hT c.args
    rw [hx] at hL
    generalize hA : (c.args.map a.eval).toList = vs at hL
    cases hL with | cons _ _ u vs' hd hr =>
    obtain rfl := hd.sc_eq
    obtain ⟨n, rfl, g2⟩ := Fa (P := P) hr h1
    refine ⟨_, _, h2, Done.makes hH (jq (b := .min) (s := Builtin.min_ c.argTypes o.type (c.args.map a.eval)) ho hc rfl) ⟨_, ?_, .sc _ rfl⟩⟩
    unfold Builtin.min_
    rw [hA]
    exact g2
   ·cases h
  ·rename_i hc
   split at h
   ·rename_i kk x rr hx
    obtain ⟨v, h1, h2⟩ := mf h
    have hL := oy hT c.args
    rw [hx] at hL
    generalize hA : (c.args.map a.eval).toList = vs at hL
    cases hL with | cons _ _ u vs' hd hr =>
    obtain rfl := hd.sc_eq
    obtain ⟨n, rfl, g2⟩ := Fb (P := P) hr h1
    refine ⟨_, _, h2, Done.makes hH (jq (b := .max) (s := Builtin.max_ c.argTypes o.type (c.args.map a.eval)) ho hc rfl) ⟨_, ?_, .sc _ rfl⟩⟩
    unfold Builtin.max_
    rw [hA]
    exact g2
   ·cases h
  ·cases h
 ·cases h
end
section
variable {P : Program} {I I' : In} {w w' : World} {T : List DV} {a : Act} {H : Heap} {α : Type}
theorem xc (n : Nat) (g : Sub) : ∀ l : List DV, d9 n g l = l.map (DV.sub n g)
 | [] => rfl
 | d :: r => by simp [d9, xc n g r]
theorem HG (n : Nat) (g : Sub) (l : List DV) (i : Nat) : (d9 n g l).getD i .undef = (l.getD i .undef).sub n g := by
 rw [xc]
 simp only [aq, bN]
 cases l[i]? <;> rfl
theorem tx : ∀ l : List DV, iG l = l.map DV.bare
 | [] => rfl
 | d :: r => by simp [iG, tx r]
theorem Gf (l : List DV) (i : Nat) : (iG l).getD i .undef = (l.getD i .undef).bare := by
 rw [tx]
 simp only [aq, bN]
 cases l[i]? <;> rfl
theorem TR.keep (hs : Same I I' w w') (hT : TR I w T a) : TR I' w' T a := ⟨hT.len, fun i => VR.keep hs (hT.val i), hT.df⟩
theorem TR.sub {n : Nat} {g : Sub} (hs : But n g I I' w w') (hT : TR I w T a) : TR I' w' (d9 n g T) a :=
 ⟨by rw [xc, cd]; exact hT.len, fun i => by rw [HG]; exact VR.sub hs (hT.val i), hT.df⟩
theorem TR.bare (hs : ObjS I I' w w') (hT : TR I w T a) : TR I' w' (iG T) a :=
 ⟨by rw [tx, cd]; exact hT.len, fun i => by rw [Gf]; exact VR.bare hs (hT.val i), hT.df⟩
theorem Nn {n : Nat} {E : TypeId} {s : Sh} {xs : List s.T} (hH : HR I w H) (h : H n = some (.row E s xs)) : ∃ I', HR I' w (H.sub n (.vs s xs)) ∧ Ext I w I' w ∧ But n (.vs s xs) I I' w w := by
 obtain ⟨v, cs, h1, h2, h3⟩ := hH.row n E s xs h
 have hnf : ∀ {m : Nat} {t : TypeId} {B : Nat → Nat → Prop}, (if m = n then none else I.ι m) = some (.fam t B) ↔ I.ι m = some (.fam t B) := fun {m t B} => by
  by_cases hm : m = n
  ·subst hm
   rw [if_pos rfl, h1]
   exact ⟨fun h => (by cases h), fun h => (by cases h)⟩
  ·rw [if_neg hm]
 have hb : But n (.vs s xs) I ⟨fun m => if m = n then none else I.ι m, ⟨fun b => I.R b ∨ v.ownBlock = some b, I.R.fam⟩⟩ w w := by
  refine ⟨⟨fun b h => .inl h, fun _ _ => rfl, fun _ _ _ h => h⟩, fun m b hm => ?_, fun m sz u hm h => ?_, ?_⟩
  ·show (if m = n then none else I.ι m) = _
   rw [if_neg]
   ·exact hm
   ·rintro rfl; rw [h1] at hm; cases hm
  ·show (if m = n then none else I.ι m) = _
   rw [if_neg hm]
   exact h
  ·intro s' xs' e sz u hu
   rw [h1] at hu
   simp only [ab, Ent.row.injEq] at hu
   obtain ⟨rfl, rfl⟩ := hu
   cases e
   refine ⟨rfl, ?_⟩
   rcases h2.2 with ⟨rfl, h0⟩ | ⟨g, cap, cur, rfl, _, hh, hc, _⟩
   ·have : xs = [] := bn h0
    subst this
    exact ⟨none, 0, rfl, ak _, fun h => absurd rfl h⟩
   ·obtain ⟨_, _, cs', k1, k2, k3⟩ := kK hH h h1
    refine ⟨_, cap, rfl, hc, fun hne => ⟨_, rfl, rfl, .inr rfl, fun i x hx => ?_⟩⟩
    have hi := (List.getElem?_eq_some_iff.1 hx).1
    have hk := k1.2.2 i x hx
    have hl : i * s.sz + s.sz ≤ xs.length * s.sz := by rw [← aK]; exact aS _ hi
    refine ⟨_, Sh.K_len hk, (by refine Sh.K_keep ?_ hk; exact ⟨fun b h => Or.inl h, fun _ _ => rfl, fun _ _ _ h => h⟩), fun j u hu => ?_⟩
    rw [Addr.add_mid, bw]
    refine k3 _ u ?_
    rw [aP] at hu
    split at hu
    ·rw [aV] at hu
     exact hu
    ·cases hu
 refine ⟨_, HR.of (fun m b hm => ?_) (fun m hm => ?_) (fun m e b hm he => ?_) (fun m m' e e' b hm hm' he he' => ?_) (fun b hR => ?_) (fun m m' t B B' h1 h2 => hH.one m m' t B B' (hnf.1 h1) (hnf.1 h2)), ⟨hb.obj, fun b h => .inl h, fun _ _ _ => rfl, fun m e b hm he => ?_, fun b hR => ?_, ak _, rfl, rfl, rfl, fun _ _ _ h => h, fun t ht => ⟨rfl, fun m B h => ht m B (hnf.1 h)⟩⟩, hb⟩
 ·simp only [Heap.sub] at hm
  split at hm
  ·cases hm
  ·rename_i hmn
   split at hm
   ·rename_i b0 hb0
    simp only [ab] at hm
    subst hm
    cases b0 with
    | obj cs0 =>
     obtain ⟨b, c, t, k1, k2, k3⟩ := hH.obj m cs0 hb0
     exact ⟨b, c, t, hb.obj _ _ k1, k2, CR.sub hb k3⟩
    | row E' s' xs' =>
     obtain ⟨u, cs', k1, k2, k3⟩ := hH.row m E' s' xs' hb0
     exact ⟨u, cs', hb.row _ _ _ hmn k1, k2, Sh.K_keep hb.keeps k3⟩
    | mp ks vs => exact MR.sub hb (hH.mp m ks vs hb0) (fun _ _ => rfl)
    | fam t k xs => exact FamR.keep hb.keeps (fun B hB => ⟨hnf.2 hB, rfl⟩) (hH.fam m t k xs hb0) (fun _ _ _ _ => rfl)
   ·cases hm
 ·show (if m = n then none else I.ι m) = none
  split
  ·rfl
  ·rename_i hmn
   simp only [Heap.sub, hmn, aC] at hm
   split at hm
   ·cases hm
   ·rename_i hb0
    exact hH.dom m hb0
 ·dsimp only at hm
  split at hm
  ·cases hm
  ·rename_i hmn
   obtain ⟨k1, k2⟩ := hH.lt m e b hm he
   refine ⟨k1, ?_⟩
   rintro (hR | hR)
   ·exact k2 hR
   ·exact hmn (hH.inj m n e _ b hm h1 he hR)
 ·dsimp only at hm hm'
  split at hm
  ·cases hm
  ·split at hm'
   ·cases hm'
   ·exact hH.inj m m' e e' b hm hm' he he'
 ·rcases hR with hR | hR
  ·exact hH.rlt b hR
  ·exact (hH.lt n _ b h1 hR).1
 ·dsimp only at hm
  split at hm
  ·cases hm
  ·exact .inl ⟨m, e, hm, he⟩
 ·rcases hR with hR | hR
  ·exact .inl hR
  ·exact .inr (.inl ⟨n, _, h1, hR⟩)
theorem jt : ∀ {r : List Nat} {I : In} {H : Heap} {A T : List DV} {vs : List Value} {A' T' : List DV} {H' : Heap}, HR I w H → TR I w T a → LR I w A vs → kq r A T H = (A', T', H') → ∃ I', HR I' w H' ∧ Ext I w I' w ∧ TR I' w T' a ∧ LR I' w A' vs
 | [], I, H, A, T, vs, A', T', H', hH, hT, hA, h => by
  simp only [kq, ah] at h
  obtain ⟨rfl, rfl, rfl⟩ := h
  exact ⟨I, hH, Ext.refl I w, hT, hA⟩
 | n :: r, I, H, A, T, vs, A', T', H', hH, hT, hA, h => by
  simp only [kq] at h
  split at h
  ·rename_i E s xs hn
   obtain ⟨I1, g1, g2, g3⟩ := Nn hH hn
   obtain ⟨I2, k1, k2, k3, k4⟩ := jt g1 (TR.sub g3 hT) (LR.sub g3 hA) h
   exact ⟨I2, k1, g2.trans k2, k3, k4⟩
  ·exact jt hH hT hA h
def Goes (P : Program) (o : Oper) (a : Act) (I : In) (w : World) (T' : List DV) (H' : Heap) : Prop :=
 ∃ I' w' n u, (execOp a.eval o).run P w = .ok n w' ∧ Ext I w I' w' ∧ HR I' w' H' ∧ TR I' w' T' (a.put o.dst u) ∧ (n = .value u ∨ n = .skip ∧ u = undef)
theorem Done.same {o : Oper} {v : DV} {act : fL} (hH : HR I w H) (h : Ext I w I' w') (hr : Rows I I') : Same I I' w w' := ⟨h.keeps hH, h.obj, hr.row⟩
theorem Done.goes {o : Oper} {v : DV} {act : fL} (hT : TR I w T a) (hH : HR I w H) (h : Done P o a I w H v act) : Goes P o a I w (dE T o.dst v) (H.act act) := by
 obtain ⟨I', w', n, h1, h2, h3, h4, h5⟩ := h
 have hs : Same I I' w w' := ⟨h2.keeps hH, h2.obj, h3.row⟩
 cases n with
 | value u => exact ⟨I', w', _, u, h1, h2, h4, (hT.keep hs).put _ h5, .inl rfl⟩
 | skip =>
  have : v = .undef := h5
  subst this
  exact ⟨I', w', _, undef, h1, h2, h4, (hT.keep hs).put _ (.undef _), .inr ⟨rfl, rfl⟩⟩
 | _ => exact h5.elim
theorem Goes.ext {o : Oper} {I1 : In} {T' : List DV} {H' : Heap} (h : Ext I w I1 w) (hg : Goes P o a I1 w T' H') : Goes P o a I w T' H' := by
 obtain ⟨I', w', n, u, h1, h2, h3⟩ := hg
 exact ⟨I', w', n, u, h1, h.trans h2, h3⟩
theorem Mu {n : Nat} {v' : Value} {E : TypeId} {s : Sh} {xs : List s.T} {cs : List Value} (hH : HR I w H) (hn : H n = none) (hg : w.grownBy w' none) (hv : v'.ownBlock = none ∨ v'.ownBlock = some w.heap.size) (hown : w'.ownsRow 0 E s.sz v' xs.length cs) (hk : (Sh.arr xs.length s).K I.R w xs cs) :
  HR (I.put n (.row s.sz v')) w' (H.set n (some (.row E s xs))) ∧ Ext I w (I.put n (.row s.sz v')) w' ∧ Same I (I.put n (.row s.sz v')) w w' := by
 have h0 := hH.dom n hn
 have hblk : ∀ b, b < w.heap.size → w'.heap[b]? = w.heap[b]? := fun b hb => hg.block b hb (by simp)
 have hlt : ∀ b, v'.ownBlock = some b → b = w.heap.size ∧ b < w'.heap.size := by
  intro b hb
  refine ⟨by rcases hv with hv | hv <;> rw [hv] at hb <;> simp_all, ?_⟩
  rcases hown.2 with ⟨rfl, _⟩ | ⟨g, cap, cur, rfl, _, hh, _⟩
  ·cases hb
  ·simp only [Value.ownBlock, ab] at hb
   subst hb
   exact (Array.getElem?_eq_some_iff.1 hh).1
 have hpf : ∀ {m : Nat} {t : TypeId} {B : Nat → Nat → Prop}, (I.put n (.row s.sz v')).ι m = some (.fam t B) ↔ I.ι m = some (.fam t B) := fun {m t B} => nP (fun t B h => by rw [h0] at h; cases h) (fun _ _ h => by cases h)
 have hs : Same I (I.put n (.row s.sz v')) w w' := by
  refine ⟨⟨fun _ h => h, fun b hb => hblk b (hH.rlt b hb), fun _ _ _ h => h⟩, fun m b h => ?_, fun m sz u h => ?_⟩
  ·rw [dk]
   ·exact h
   ·rintro rfl; rw [h0] at h; cases h
  ·rw [dk]
   ·exact h
   ·rintro rfl; rw [h0] at h; cases h
 refine ⟨HR.of (fun m b h => ?_) (fun m h => ?_) (fun m e b h hb => ?_) (fun m m' e e' b h h' hb hb' => ?_) (fun b h => ?_) (fun m m' t B B' h1 h2 => hH.one m m' t B B' (hpf.1 h1) (hpf.1 h2)), ⟨hs.obj, fun _ h => h, fun b hb _ => hblk b hb, fun m e b h hb => ?_, fun b h => .inl h, hg.size, hg.os, hg.tape, hg.output, fun _ _ _ h => h, fun t ht => ⟨rfl, fun m B h => ht m B (hpf.1 h)⟩⟩, hs⟩
 ·by_cases hm : m = n
  ·subst hm
   rw [Heap.set_same] at h
   simp only [ab] at h
   subst h
   exact ⟨v', cs, du, hown, Sh.K_keep hs.keeps hk⟩
  ·rw [dS hm] at h
   exact (hH.br h).keep hs (fun t B h => ⟨hpf.2 h, rfl⟩) (fun e g h1 h2 => hblk g (hH.lt m e g h1 h2).1)
 ·by_cases hm : m = n
  ·subst hm; rw [Heap.set_same] at h; cases h
  ·rw [dS hm] at h
   rw [dk hm]
   exact hH.dom m h
 ·by_cases hm : m = n
  ·subst hm
   rw [du] at h
   simp only [ab] at h
   subst h
   obtain ⟨k1, k2⟩ := hlt b hb
   exact ⟨k2, fun hR => by have := hH.rlt b hR; omega⟩
  ·rw [dk hm] at h
   obtain ⟨k1, k2⟩ := hH.lt m e b h hb
   exact ⟨bb k1 hg.size, k2⟩
 ·by_cases hm : m = n
  ·by_cases hm' : m' = n
   ·rw [hm, hm']
   ·exfalso
    subst hm
    rw [du] at h
    rw [dk hm'] at h'
    simp only [ab] at h
    subst h
    have := (hlt b hb).1
    have := (hH.lt m' e' b h' hb').1
    omega
  ·by_cases hm' : m' = n
   ·exfalso
    subst hm'
    rw [du] at h'
    rw [dk hm] at h
    simp only [ab] at h'
    subst h'
    have := (hlt b hb').1
    have := (hH.lt m e b h hb).1
    omega
   ·rw [dk hm] at h
    rw [dk hm'] at h'
    exact hH.inj m m' e e' b h h' hb hb'
 ·exact bb (hH.rlt b h) hg.size
 ·by_cases hm : m = n
  ·subst hm
   rw [du] at h
   simp only [ab] at h
   subst h
   exact .inr (by have := (hlt b hb).1; omega)
  ·rw [dk hm] at h
   exact .inl ⟨m, e, h, hb⟩
theorem tC {E : TypeId} {sz n l cap : Nat} {b : Nat} {cs : List Value} (h : w.ownsRow 0 E sz (.slice (some ⟨b, 0, none⟩) n cap) n cs) (hl : l ≤ n) : w.ownsRow 0 E sz (.slice (some ⟨b, 0, none⟩) l cap) l (cs.take (l * sz)) := by
 have hle : l * sz ≤ n * sz := aS _ hl
 refine ⟨by rw [bV, h.1]; omega, ?_⟩
 rcases h.2 with ⟨e, _⟩ | ⟨g, cap', cur, e, h1, h2, h3, h4, h5, h6⟩
 ·cases e
 ·simp only [Value.slice.injEq, ab, Addr.mk.injEq, aZ] at e
  obtain ⟨rfl, _, rfl⟩ := e
  refine .inr ⟨b, cap, cur, rfl, h1, h2, by omega, h4, h5, ?_⟩
  rw [← h6, ch]
  congr 1
  omega
theorem AC {R : RO} (s : Sh) : (Sh.arr ([] : List s.T).length s).K R w ([] : List s.T) [] := ⟨rfl, by simp, fun i x hx => by simp at hx⟩
theorem pJ {o : Oper} {c : Call} {x y : Operand} {t : TypeId} {v : Value} (ho : o.op = .call c) (hc : c.callee = .builtin .append) (hx : c.args.toList = [x, y]) (ht : c.argTypes.toList = [t, t]) (h : (Builtin.append_ #[t, t] o.type #[a.eval x, a.eval y]).run P w = .ok v w') : (execOp a.eval o).run P w = .ok (.value v) w' := by
 rw [jq (b := .append) (s := Builtin.append_ c.argTypes o.type (c.args.map a.eval)) ho hc rfl]
 refine jL ?_
 have e1 : c.args.map a.eval = #[a.eval x, a.eval y] := by
  apply Array.toList_inj.1
  rw [cv, hx]; rfl
 have e2 : c.argTypes = #[t, t] := Array.toList_inj.1 ht
 rw [e1, e2]
 exact h
theorem Gg {d : Nat} {o : Oper} {c : Call} {x y : Operand} {t e : TypeId} {s : Sh} {ys : List s.T} {k : List DV → Heap → Option α} {r : α} (hT : TR I w T a) (hH : HR I w H) (ho : o.op = .call c) (hc : c.callee = .builtin .append) (hx : c.args.toList = [x, y]) (ht : c.argTypes.toList = [t, t])
  (hu : P.underlying t = some (.slice e)) (hz : j9 P e s = true) (hy : ez H s (dh T y) = some ys) (h : iU P d o e s (dh T x) ys T H k = some r) : ∃ T' H', k T' H' = some r ∧ Goes P o a I w T' H' := by
 have hvx := dP hT x
 have hvy := dP hT y
 generalize dh T x = dx at h hvx
 generalize hax : a.eval x = ux at hvx
 unfold iU at h
 split at h
 ·rename_i z cp
  obtain rfl := hvx.sc_eq
  split at h
  ·rename_i hcnd
   simp only [aj, av] at hcnd
   obtain ⟨⟨⟨rfl, rfl⟩, hb⟩, h1⟩ := hcnd
   obtain ⟨n, hn, h2⟩ := kM h
   obtain ⟨v', w', cs', g1, g2, g3, g4, g5⟩ := ri (P := P) (t := t) (ty := o.type) (xs := []) (v := .slice none 0 0) (cs := []) hH hz hu ⟨by simp, .inl ⟨rfl, rfl⟩⟩ (AC s) hvy hy (by simpa using hb) h1
   obtain ⟨k1, k2, k3⟩ := Mu hH hn g3 g4 g2 g5
   refine ⟨_, _, h2, _, w', _, v', pJ ho hc hx ht (by rw [hax]; exact g1), k2, k1, (hT.keep k3).put _ (VR.rw n s.sz v' du ?_), .inl rfl⟩
   rcases g2.2 with ⟨rfl, _⟩ | ⟨g, c', cur, rfl, _⟩
   ·exact ⟨_, _, _, rfl⟩
   ·exact ⟨_, _, _, rfl⟩
  ·cases h
 ·rename_i n
  split at h
  ·rename_i E' s' xs hrow
   split at h
   ·rename_i hE
    subst hE
    split at h
    ·rename_i hs' hq
     cases hs'
     split at h
     ·rename_i hcnd
      simp only [aj, av] at hcnd
      cases hvx with | rw _ sz v hi hs =>
      obtain ⟨v0, cs, m1, m2, m3⟩ := hH.row n E' s xs hrow
      rw [hi] at m1
      simp only [ab, Ent.row.injEq] at m1
      obtain ⟨rfl, rfl⟩ := m1
      obtain ⟨v', w', cs', g1, g2, g3, g4, g5⟩ := ri (P := P) (t := t) (ty := o.type) hH hz hu m2 m3 hvy hy hcnd.1 hcnd.2
      obtain ⟨k1, k2, k3⟩ := Nl hH hi g3 g4 g2 g5
      refine ⟨_, _, h, _, w', _, v', pJ ho hc hx ht (by rw [hax]; exact g1), k2, k1, (hT.sub k3).put _ (VR.rw n s.sz v' du ?_), .inl rfl⟩
      rcases g2.2 with ⟨rfl, _⟩ | ⟨g, c', cur, rfl, _⟩
      ·exact ⟨_, _, _, rfl⟩
      ·exact ⟨_, _, _, rfl⟩
     ·cases h
    ·cases h
   ·cases h
  ·cases h
 ·rename_i n z l
  split at h
  ·rename_i E' s' xs hrow
   split at h
   ·rename_i hz0
    subst hz0
    split at h
    ·rename_i hE
     subst hE
     split at h
     ·rename_i hs' hq
      cases hs'
      split at h
      ·rename_i hcnd
       simp only [aj, av] at hcnd
       cases hvx with | sl _ _ _ sz A A' len cap cap' hi hl h0' h1' hc' =>
       obtain ⟨rfl, rfl⟩ := h0' rfl
       obtain ⟨v0, cs, m1, m2, m3⟩ := hH.row n E' s xs hrow
       rw [hi] at m1
       simp only [ab, Ent.row.injEq] at m1
       obtain ⟨rfl, rfl⟩ := m1
       obtain ⟨_, rfl, _, _⟩ := jN hH hrow hi
       have hl' : l ≤ xs.length := by omega
       have hlen : (xs.take l).length = l := by simp; omega
       have hown : w.ownsRow 0 E' s.sz (.slice A' l cap') (xs.take l).length (cs.take (l * s.sz)) := by
        rw [hlen]
        rcases m2.2 with ⟨e, e0⟩ | ⟨g, c', cur, e, _⟩
        ·simp only [Value.slice.injEq] at e
         obtain ⟨rfl, _, rfl⟩ := e
         have : l = 0 := by omega
         subst this
         exact ⟨by simp, .inl ⟨rfl, rfl⟩⟩
        ·simp only [Value.slice.injEq] at e
         obtain ⟨rfl, _, rfl⟩ := e
         exact tC m2 hl'
       obtain ⟨v', w', cs', g1, g2, g3, g4, g5⟩ := ri (P := P) (t := t) (ty := o.type) hH hz hu hown (rh m3 hl') hvy hy hcnd.1 hcnd.2
       have e0 : ∀ (A : Option Addr) (n m c c' : Nat), (Value.slice A n c).ownBlock = (Value.slice A m c').ownBlock := by
        intro A n m c c'
        cases A <;> rfl
       obtain ⟨k1, k2, k3⟩ := Nl (v' := v') hH hi (by rw [e0 A' xs.length l cap' cap']; exact g3) (by rw [e0 A' xs.length l cap' cap']; exact g4) g2 g5
       refine ⟨_, _, h, _, w', _, v', pJ ho hc hx ht (by rw [hax]; exact g1), k2, k1, (hT.sub k3).put _ (VR.rw n s.sz v' du ?_), .inl rfl⟩
       rcases g2.2 with ⟨rfl, _⟩ | ⟨g, c', cur, rfl, _⟩
       ·exact ⟨_, _, _, rfl⟩
       ·exact ⟨_, _, _, rfl⟩
      ·cases h
     ·cases h
    ·cases h
   ·cases h
  ·cases h
 ·cases h
theorem Gh {R : RO} {s : Sh} {m k : Nat} {xs ys : List s.T} {cs ds : List Value} (h1 : s.sz = 1) (hx : (Sh.arr m s).K R w xs cs) (hy : (Sh.arr ys.length s).K R w ys ds) (hky : k ≤ ys.length) (hkm : k ≤ m) : (Sh.arr m s).K R w (ys.take k ++ xs.drop k) (ds.take k ++ cs.drop k) := by
 obtain ⟨a1, a2, a3⟩ := hx
 obtain ⟨b1, b2, b3⟩ := hy
 rw [h1, Nat.mul_one] at a2 b2
 refine ⟨by simp; omega, by simp [h1]; omega, fun i x hi => ?_⟩
 rw [h1, Nat.mul_one]
 rcases am i k with h | h
 ·rw [aO (by simp; omega), aP, if_pos h] at hi
  have := b3 i x hi
  rw [h1, Nat.mul_one] at this
  rw [b6 (by simp; omega), bC (by simp; omega), List.drop_take, ch, cw (by omega)]
  exact this
 ·have hl : (ys.take k).length = k := by simp; omega
  have hl2 : (ds.take k).length = k := by simp; omega
  rw [aW (by omega), hl, aV, show k + (i - k) = i by omega] at hi
  have := a3 i x hi
  rw [h1, Nat.mul_one] at this
  rw [List.drop_append, hl2, cf (by omega : (ds.take k).length ≤ i), bI, bv, show k + (i - k) = i by omega]
  exact this
theorem EI {cs X Y : List Value} {o : Nat} (hle : o + X.length + Y.length ≤ cs.length) (hY : ∀ j u, Y[j]? = some u → cs[o + X.length + j]? = some u) : dK cs o (X ++ Y) = dK cs o X := by
 have hY2 : Y = (cs.drop (o + X.length)).take Y.length := by
  apply cq
  intro j
  rw [aP]
  split
  ·rename_i hj
   rw [aV, ax hj]
   exact (hY j _ (ax hj)).symm
  ·rename_i hj
   exact ct (by omega)
 unfold dK
 have : cs.drop (o + X.length) = Y ++ cs.drop (o + (X ++ Y).length) := by
  conv => lhs; rw [← bE Y.length (cs.drop (o + X.length)), ← hY2]
  rw [bv, aF, bD]
 rw [this]
 simp
theorem Mv {o : Oper} {c : Call} {x y : Operand} {t t' e : TypeId} {s : Sh} {n z l m m' : Nat} {p : List Ix} {cs cs' r' : List DV} {xs ys : List s.T} (hT : TR I w T a) (hH : HR I w H) (ho : o.op = .call c) (hc : c.callee = .builtin .copy) (hx : c.args.toList = [x, y]) (ht : c.argTypes.toList = [t, t'])
  (hu : P.underlying t = some (.slice e)) (hdx : dh T x = .ps n z p m' l) (hcs : H n = some (.obj cs)) (hat : pY cs (.off z :: p) = some (.arr s m xs :: r')) (hcond : (i7 P e 1 && (Nat.beq s.sz 1 && Nat.beq m m')) = true) (hys : ez H s (dh T y) = some ys)
  (hset : oj [.arr s m (ys.take (min ys.length l) ++ xs.drop (min ys.length l))] (.off z :: p) cs = some cs') : Goes P o a I w (dE T o.dst (.sc (.int .i64 (min ys.length l : Nat)))) (H.set n (some (.obj cs'))) := by
 simp only [aj] at hcond
 obtain ⟨hsz, hs1, hmm⟩ := hcond
 have hmm : m = m' := bO hmm
 have hs1 : s.sz = 1 := bO hs1
 obtain ⟨inf, hinf, hi1⟩ := fK hsz
 have hvx := dP hT x
 rw [hdx] at hvx
 generalize hxa : a.eval x = xa at hvx
 cases hvx with | ps _ _ _ _ _ b cap hb hp hl hlm =>
 obtain ⟨A, cy, hya, news, hK, hnil, hcell⟩ := w9 hH (dP hT y) hys
 obtain ⟨b', cc, ty, e1, e2, e3⟩ := hH.obj n cs hcs
 rw [hb] at e1
 simp only [ab, Ent.obj.injEq] at e1
 subst e1
 obtain ⟨cat, k1, k2⟩ := p9 hat (show lW (.off z :: p) from hp) e3
 cases k1 with
 | one _ _ u c2 hv hu hr => cases hv
 | arr _ _ _ _ c1 c2 hk h1 hr =>
 have hnl : news.length = ys.length := by have := hK.2.1; rw [hs1, Nat.mul_one] at this; exact this
 have hc1 : c1.length = m := by have := hk.2.1; rw [hs1, Nat.mul_one] at this; exact this
 generalize hkk : min ys.length l = kk at *
 have hk1 : kk ≤ ys.length := by omega
 have hk2 : kk ≤ m := by omega
 have hka := Gh hs1 hk hK hk1 hk2
 have hd : CR I w [.arr s m (ys.take kk ++ xs.drop kk)] (news.take kk ++ c1.drop kk) := by
  have := CR.arr (I := I) (w := w) s m (ys.take kk ++ xs.drop kk) [] (news.take kk ++ c1.drop kk) [] hka (Sh.K_one hka) .nil
  simpa using this
 obtain ⟨g1, g2⟩ := n7 hset (show lW (.off z :: p) from hp) e3 hd
 have hoff : dO (.off z :: p) = z + dO p := rfl
 rw [hoff] at g1 g2
 have hlX : (news.take kk).length = kk := by simp; omega
 have hlY : (c1.drop kk).length = m - kk := by simp; omega
 rw [EI (by rw [hlX, hlY]; simp only [aF, hlX, hlY] at g1; omega) (fun j u hu => by
  rw [aV] at hu
  have := k2 (kk + j) u (by rw [aO (List.getElem?_eq_some_iff.1 hu).1]; exact hu)
  rw [hoff] at this
  rw [hlX, ← this]
  congr 1
  omega)] at g2
 have ea : c.args.map a.eval = #[.slice (some ⟨b, z + dO p, none⟩) l cap, .slice A ys.length cy] := by
  apply Array.toList_inj.1
  rw [cv, hx]
  simp [hxa, hya]
 have et : c.argTypes = #[t, t'] := Array.toList_inj.1 ht
 have fit : z + dO p + kk ≤ cc.size := by
  simp only [aF, hlX, hlY] at g1
  have : cc.toList.length = cc.size := by simp
  omega
 have done : ∀ {w' : World} {c' : Array Value}, (Builtin.copy_ c.argTypes o.type (c.args.map a.eval)).run P w = .ok (.int .i64 (kk : Int)) w' → w'.heap[b]? = some (.cells c' ty (0, 0)) → c'.toList = dK cc.toList (z + dO p) (news.take kk) → (∀ g, g ≠ b → w'.heap[g]? = w.heap[g]?) → w'.heap.size = w.heap.size → w'.os = w.os → w'.tape = w.tape → w'.output = w.output → Goes P o a I w (dE T o.dst (.sc (.int .i64 (kk : Nat)))) (H.set n (some (.obj cs'))) := by
  intro w' c' q1 q2 q3 q4 q5 q6 q7 q8
  have hr : (execOp a.eval o).run P w = .ok (.value (.int .i64 (kk : Int))) w' := by
   rw [jq (b := .copy) (s := Builtin.copy_ c.argTypes o.type (c.args.map a.eval)) ho hc rfl]
   exact jL q1
  have hD : Done P o a I w H (.sc (.int .i64 (kk : Int))) (some (n, .obj cs')) := by
   refine ⟨I, w', _, hr, Ext.write hb rfl q4 q5 q6 q7 q8, ⟨fun _ _ _ h => h⟩, ?_, .sc _ rfl⟩
   refine HR.write hH hb rfl q4 q5 ⟨b, c', ty, hb, q2, ?_⟩
   rw [q3]
   exact CR.keep (Same.write hH hb rfl q4) g2
  exact hD.goes hT hH
 cases A with
 | none =>
  have hy0 : ys = [] := hnil rfl
  subst hy0
  have hk0 : kk = 0 := by simp at hkk; omega
  subst hk0
  refine done (w' := w) (c' := cc) ?_ e2 (by simp [dK]) (fun _ _ => rfl) rfl rfl rfl rfl
  rw [ea, et]
  simp [Builtin.copy_, run_underlying hu, Builtin.lenOf, Builtin.firstCells, sizeOf, typeInfo, hinf, storeCells, goInt, Sem.run_bind]
 | some ad =>
  have hrun := run_copy_row (P := P) w t t' o.type e b (z + dO p) l cap ad ys.length cy cc ty (news.take kk) hu (by rw [hinf]; simp [hi1]) e2 (by rw [hlX]; exact hkk.symm) (fun j v hv => hcell ad rfl j v (by
   rw [aP] at hv
   split at hv
   ·exact hv
   ·cases hv)) (by rw [hlX]; exact fit) (fun v hv => Sh.K_one hK v (List.mem_of_mem_take hv))
  rw [← ea, ← et, hlX] at hrun
  exact done hrun (setRow_heap w b cc _ ty (0, 0) e2) (by simp [dK, hlX]) (fun g hg => setRow_other w b g _ hg) (by simp) rfl rfl rfl
theorem CB {d : Nat} {o : Oper} {k : K α} {r : α} (hT : TR I w T a) (hH : HR I w H) (h : lv P d o T H k = some r) : ∃ T' H', k T' H' = some r ∧ Goes P o a I w T' H' := by
 have plain : ∀ {I : In} {T : List DV} {H : Heap}, TR I w T a → HR I w H → (eO P d o T H fun v a => k (dE T o.dst v) (H.act a)) = some r → ∃ T' H', k T' H' = some r ∧ Goes P o a I w T' H' := by
  intro I T H hT hH h
  obtain ⟨v, act, h1, h2⟩ := HF hT hH h
  exact ⟨_, _, h1, h2.goes hT hH⟩
 unfold lv at h
 split at h
 ·rename_i t n ps ho
  split at h
  rename_i A' T' H' hs
  have hLR : LR I w (ps.toList.map fun e => dh T e.2) (ps.toList.map fun e => a.eval e.2) := by
   have := LR.map hT (ps.toList.map (·.2))
   simpa [List.map_map, Function.comp_def] using this
  obtain ⟨I1, g1, g2, g3, _⟩ := jt hH hT hLR hs
  obtain ⟨T2, H2, k1, k2⟩ := plain g3 g1 h
  exact ⟨T2, H2, k1, k2.ext g2⟩
 ·rename_i q x y ho
  split at h
  ·split at h
   rename_i A' T' H' hs
   have hLR : LR I w [dh T y] [a.eval y] := .cons _ _ _ _ (dP hT y) .nil
   obtain ⟨I1, g1, g2, g3, _⟩ := jt hH hT hLR hs
   obtain ⟨T2, H2, k1, k2⟩ := plain g3 g1 h
   exact ⟨T2, H2, k1, k2.ext g2⟩
  ·exact plain hT hH h
 ·rename_i c ho
  split at h
  ·rename_i hc
   split at h
   ·rename_i x y t t' hx ht
    split at h
    ·rename_i htt
     subst htt
     split at h
     ·rename_i e hu
      split at h
      ·rename_i s hsh
       split at h
       ·rename_i hz
        split at h
        ·rename_i ys hy
         exact Gg hT hH ho hc hx ht hu hz hy h
        ·cases h
       ·cases h
      ·cases h
     ·cases h
    ·cases h
   ·cases h
  ·rename_i hc
   split at h
   ·rename_i x y t t' hx ht
    split at h
    ·rename_i e n z p m' l hu hdx
     split at h
     ·rename_i cs hcs
      split at h
      ·rename_i s m xs r' hat
       split at h
       ·rename_i hcond
        split at h
        ·rename_i ys hys
         split at h
         ·rename_i cs' hset
          exact ⟨_, _, h, Mv hT hH ho hc hx ht hu hdx hcs hat hcond hys hset⟩
         ·cases h
        ·cases h
       ·cases h
      ·cases h
     ·cases h
    ·cases h
   ·cases h
  ·exact plain hT hH h
 ·exact plain hT hH h
end
section
variable {P : Program} {I I' : In} {w w' : World} {T : List DV} {a : Act} {H : Heap} {α : Type}
def Gi (u : Option (List Nat)) (I I' : In) : Prop := ∀ l, u = some l → ∀ n sz v, n ∉ l → I.ι n = some (.row sz v) → I'.ι n = some (.row sz v)
def xd (R : Value → World → Prop) : Ending → World → Prop
 | .returned z, w => R z w
 | _, _ => False
def CC (P : Program) (f : FuncId) : Prop := ∀ (args : Array Value) (w : World), (callFunc f args).run P w = .ok (.enter f args) w
theorem kN {f : FuncId} (h : fY P f = true) : CC P f := by
 intro args w
 unfold fY at h
 split at h
 ·rename_i fn hf
  simp only [aj, aw, ne_eq] at h
  have h1 : (fn.name == "runtime.NumGoroutine") = false := by simp [h.1]
  have h2 : fn.body.isNone = false := by
   cases hb : fn.body with
   | none => rw [hb] at h; simp at h
   | some c => rfl
  have h3 : fn.body ≠ none := by
   intro e
   rw [e] at h
   simp at h
  simp [callFunc, hf, h.1, h3]
 ·cases h
def rj (P : Program) (call : gH α) : Prop := ∀ {I : In} {w : World} {H : Heap} {A : List DV} {args : List Value} {f : FuncId} {k : DV → Heap → Option (List Nat) → Option α} {r : α}, HR I w H → LR I w A args → call f A H k = some r →
 CC P f ∧ Calls P f args.toArray w (xd fun z w' => ∃ I' v H' u, k v H' u = some r ∧ Ext I w I' w' ∧ HR I' w' H' ∧ VR I' w' v z ∧ Gi u I I')
def In.drop (I : In) (n : Nat) : In := ⟨fun m => if m = n then (match I.ι m with | some (.row _ _) => none | x => x) else I.ι m, I.R⟩
theorem In.drop_but (I : In) (n : Nat) (w : World) : But n .none I (I.drop n) w w := by
 refine ⟨⟨fun _ h => h, fun _ _ => rfl, fun _ _ _ h => h⟩, fun m b h => ?_, fun m sz v hm h => ?_, fun s xs h => by cases h⟩
 ·show (if m = n then _ else _) = _
  split
  ·rw [h]
  ·exact h
 ·show (if m = n then _ else _) = _
  rw [if_neg hm]
  exact h
theorem CD : ∀ {l : List Nat} {I : In} {T : List DV}, TR I w T a → Keeps I.R I'.R w w' → (∀ n b, I.ι n = some (.obj b) → I'.ι n = some (.obj b)) → (∀ n sz v, n ∉ l → I.ι n = some (.row sz v) → I'.ι n = some (.row sz v)) → TR I' w' (dJ l T) a
 | [], I, T, hT, hk, ho, hr => hT.keep ⟨hk, ho, fun n sz v h => hr n sz v (by simp) h⟩
 | n :: l, I, T, hT, hk, ho, hr => by
  show TR I' w' (dJ l (d9 n .none T)) a
  refine CD (l := l) (I := I.drop n) (hT.sub (I.drop_but n w)) hk (fun m b h => ?_) (fun m sz v hm h => ?_)
  ·refine ho m b ?_
   by_cases hmn : m = n
   ·simp only [In.drop, hmn, if_true] at h ⊢
    split at h
    ·cases h
    ·exact h
   ·simpa only [In.drop, hmn, aC] using h
  ·by_cases hmn : m = n
   ·simp only [In.drop, hmn, if_true] at h
    split at h
    ·cases h
    ·rename_i h2
     exact (h2 _ _ h).elim
   ·simp only [In.drop, hmn, aC] at h
    exact hr m sz v (by simp [hmn, hm]) h
theorem CE {u : Option (List Nat)} (hT : TR I w T a) (hH : HR I w H) (he : Ext I w I' w') (hk : Gi u I I') : TR I' w' (ku T u) a := by
 cases u with
 | none => exact hT.bare (he.toObj hH)
 | some l => exact CD hT (he.keeps hH) he.obj (hk l rfl)
theorem CF {g : Nat} {v : DV} (h : T.getD g .undef = v) (hv : v ≠ .undef) : T.set g v = T := by
 apply cq
 intro i
 rw [b7]
 split
 ·rename_i e
  subst e
  split
  ·rename_i hl
   rw [← h, aq, ax hl]
   rfl
  ·rename_i hl
   rw [aq, ct (by omega)] at h
   exact absurd h.symm hv
 ·rfl
theorem wt {ops : Array Oper} {j : Nat} {g : Tmp} {b : Bool} (hT : TR I w T a) (hj : (ops[j]?).bind (·.dst) = some g) (h : T.getD g .undef = .sc (.bool b)) : yielded ops a.tmps j = some b := by
 have := hT.val g
 rw [h] at this
 have h1 := this.sc_eq
 unfold yielded
 rw [hj]
 simp only [ae]
 rw [b9] at h1
 cases hg : a.tmps[g]? with
 | none => rw [hg] at h1; cases h1
 | some x =>
  rw [hg] at h1
  simp only [bW] at h1
  subst h1
  rfl
theorem wu {ops : Array Oper} {j : Nat} {g : Tmp} (hT : TR I w T a) (hj : (ops[j]?).bind (·.dst) = some g) (h : T.getD g .undef = .tup []) : yielded ops a.tmps j = none := by
 have := hT.val g
 rw [h] at this
 unfold yielded
 rw [hj]
 simp only [ae]
 generalize hx : a.tmps.getD g undef = x at this
 cases this with
 | tup _ vs hl =>
  rw [b9] at hx
  cases hg : a.tmps[g]? with
  | none => rfl
  | some y =>
   rw [hg] at hx
   simp only [bW] at hx
   subst hx
   rfl
theorem vG (hT : TR I w T a) (d : Option Tmp) : TR I w (dE T d (.tup [])) (a.put d undef) := hT.put d (.tup [] #[] .nil)
theorem Goes.wp {o : Oper} {T' : List DV} {H' : Heap} {K : Act → World → Prop} {Q : Exit → Act → World → Prop} (h : Goes P o a I w T' H') (hk : ∀ I' w' u, Ext I w I' w' → HR I' w' H' → TR I' w' T' (a.put o.dst u) → K (a.put o.dst u) w') : o.wp P a w K Q := by
 obtain ⟨I', w', n, u, h1, h2, h3, h4, h5⟩ := h
 unfold Oper.wp
 rw [h1]
 rcases h5 with rfl | ⟨rfl, rfl⟩
 ·exact hk I' w' u h2 h3 h4
 ·exact hk I' w' undef h2 h3 h4
theorem kO {f : Operand} {g : FuncId} {x y : List DV} {c : Call} (hT : TR I w T a) (h : dh T f = .fn (.func g) x y) : ∃ x' y', a.eval f = .func (.func g) x' y' ∧ LR I w (x ++ c.args.toList.map (dh T) ++ y) (x' ++ c.args.map a.eval ++ y').toList := by
 have hf := dP hT f
 rw [h] at hf
 obtain ⟨x', y', e, h1, h2⟩ := hf.fn_case
 refine ⟨x', y', e, ?_⟩
 have app : ∀ {l m : List DV} {l' m' : List Value}, LR I w l l' → LR I w m m' → LR I w (l ++ m) (l' ++ m') := by
  intro l m l' m' hl hm
  induction l generalizing l' with
  | nil => cases hl with | nil => exact hm
  | cons d r ih => cases hl with | cons _ _ u vs hd hr => exact .cons _ _ _ _ hd (ih hr)
 simp only [Array.toList_append]
 exact app (app h1 (oy hT c.args)) h2
theorem kP {o : Oper} {c : Call} {f : Operand} {g : FuncId} {x' y' : Array Value} (ho : o.op = .call c) (hc : c.callee = .value f) (hf : a.eval f = .func (.func g) x' y') (he : CC P g) : (execOp a.eval o).run P w = .ok (.enter g (x' ++ c.args.map a.eval ++ y')) w := by
 unfold execOp
 rw [ho]
 simp only [resolve, hc, hf, Deferred.ofValue]
 exact he _ _
end
section
variable {P : Program} {α : Type}
theorem CG {call : gH α} (hcall : rj P call) {I : In} {w : World} {T : List DV} {a : Act} {H : Heap} {o : Oper} {c : Call} {f : Operand} {g : FuncId} {x y : List DV} {sp : Bool} {k : K α} {r : α} {K : Act → World → Prop} {Q : Exit → Act → World → Prop} (hT : TR I w T a) (hH : HR I w H)
  (ho : o.op = .call c) (hc : c.callee = .value f) (hf : dh T f = .fn (.func g) x y)
  (h : (match (if sp = true then (x ++ c.args.toList.map (dh T) ++ y, T, H) else kc (x ++ c.args.toList.map (dh T) ++ y) T H) with
   | (A, T, H) => call g A H fun v H u => k (dE (ku T u) o.dst v) H) = some r)
  (hk : ∀ I' w' T' H' u, Ext I w I' w' → HR I' w' H' → TR I' w' T' (a.put o.dst u) → k T' H' = some r → K (a.put o.dst u) w') : o.wp P a w K Q := by
 obtain ⟨x', y', e1, e2⟩ := kO (c := c) hT hf
 split at h
 rename_i A1 T1 H1 hs
 obtain ⟨I1, g1, g2, g3, g4⟩ : ∃ I1, HR I1 w H1 ∧ Ext I w I1 w ∧ TR I1 w T1 a ∧ LR I1 w A1 (x' ++ c.args.map a.eval ++ y').toList := by
  split at hs
  ·simp only [ah] at hs
   obtain ⟨rfl, rfl, rfl⟩ := hs
   exact ⟨I, hH, Ext.refl I w, hT, e2⟩
  ·exact jt hH hT e2 hs
 obtain ⟨k1, k2⟩ := hcall g1 g4 h
 unfold Oper.wp
 rw [kP ho hc e1 k1, Oper.upon_enter]
 refine Calls.mono k2 ?_
 rintro e w' he
 cases e with
 | returned z =>
  obtain ⟨I', v, H', u, m1, m2, m3, m4, m5⟩ := he
  exact hk I' w' _ H' z (g2.trans m2) m3 ((CE g3 g1 m2 m5).put _ m4) m1
 | _ => exact he.elim
theorem CH {cx : Cx} {call : gH α} (hcall : rj cx.P call) {d : Nat} {ops : Array Oper} {k : K α} {r : α} {Q : Exit → Act → World → Prop} : ∀ {l : List Oper} {I : In} {w : World} {T : List DV} {a : Act} {H : Heap}, TR I w T a → HR I w H → e9 cx call d ops l T H k = some r →
  (∀ I' w' T' H' a', Ext I w I' w' → HR I' w' H' → TR I' w' T' a' → k T' H' = some r → Q .normal a' w') → wpList cx.P ops Q l a w
 | [], I, w, T, a, H, hT, hH, h, hQ => hQ I w T H a (Ext.refl I w) hH hT h
 | o :: l, I, w, T, a, H, hT, hH, h, hQ => by
  have next : ∀ {I' : In} {w' : World} {T' : List DV} {H' : Heap} {a' : Act}, Ext I w I' w' → HR I' w' H' → TR I' w' T' a' → e9 cx call d ops l T' H' k = some r → wpList cx.P ops Q l a' w' := fun he hH' hT' h' =>
   CH hcall hT' hH' h' fun I2 w2 T2 H2 a2 he2 hH2 hT2 h2 => hQ I2 w2 T2 H2 a2 (he.trans he2) hH2 hT2 h2
  have hrun : ∀ {R : Option α}, (match o.op with
   | .call c => match c.callee with
    | .value f => match dh T f with
     | .fn (.func g) a b => match (if n6 g = true then (a ++ c.args.toList.map (dh T) ++ b, T, H) else kc (a ++ c.args.toList.map (dh T) ++ b) T H) with
      | (A, T, H) => call g A H fun v H u => e9 cx call d ops l (dE (ku T u) o.dst v) H k
     | _ => none
    | _ => lv cx.P d o T H fun T H => e9 cx call d ops l T H k
   | _ => lv cx.P d o T H fun T H => e9 cx call d ops l T H k) = some r → o.wp cx.P a w (wpList cx.P ops Q l) Q := by
   intro R h
   have plain : (lv cx.P d o T H fun T H => e9 cx call d ops l T H k) = some r → o.wp cx.P a w (wpList cx.P ops Q l) Q := by
    intro h
    obtain ⟨T', H', h1, h2⟩ := CB hT hH h
    exact h2.wp fun I' w' u he hH' hT' => next he hH' hT' h1
   split at h
   ·rename_i c ho
    split at h
    ·rename_i f hc
     split at h
     ·rename_i g x y hf
      exact CG hcall (sp := n6 g) (k := fun T H => e9 cx call d ops l T H k) hT hH ho hc hf h fun I' w' T' H' u he hH' hT' h' => next he hH' hT' h'
     ·cases h
    ·exact plain h
   ·exact plain h
  unfold e9 at h
  simp only [Av, Hp] at h
  try simp only at h
  unfold wpList
  split at h
  ·rename_i hg
   rw [if_pos (by simp [Region.wanted, hg])]
   exact .inl (hrun (R := some r) h)
  ·rename_i j want hg
   split at h
   ·rename_i g hj
    split at h
    ·rename_i b hb
     have hy := wt hT hj hb
     have hfix : T.set g (.sc (.bool b)) = T := CF hb (by simp)
     cases b with
     | true =>
      rw [hfix] at h
      cases want with
      | true =>
       rw [if_pos (by simp [Region.wanted, hg, hy])]
       exact .inl (hrun (R := some r) h)
      | false =>
       rw [if_neg (by simp [Region.wanted, hg, hy])]
       exact next (Ext.refl I w) hH (vG hT o.dst) h
     | false =>
      rw [hfix] at h
      cases want with
      | true =>
       rw [if_neg (by simp [Region.wanted, hg, hy])]
       exact next (Ext.refl I w) hH (vG hT o.dst) h
      | false =>
       rw [if_pos (by simp [Region.wanted, hg, hy])]
       exact .inl (hrun (R := some r) h)
    ·rename_i hb
     have hy := wu hT hj hb
     rw [if_neg (by simp [Region.wanted, hg, hy])]
     exact next (Ext.refl I w) hH (vG hT o.dst) h
    ·cases h
   ·cases h
end
section
variable {P : Program} {α : Type}
theorem AD {c x y : DV} {k : DV → Option α} : pe c x y k = (pe c x y some).bind k := by
 unfold pe
 repeat' split
 all_goals first | rfl | simp
theorem CI {op : BinOp} {t : TypeId} {x y : DV} {k : DV → Option α} : zM P op t x y k = (zM P op t x y some).bind k := by
 unfold zM
 repeat' split
 all_goals first | rfl | simp
theorem tD {t : TypeId} {H : Heap} {x : DV} {i : Int} {k : DV → Option α} : iH P t H x i k = (iH P t H x i some).bind k := by
 unfold iH
 repeat' split
 all_goals first | rfl | simp
theorem yz {t : TypeId} {x : DV} {i : Int} {k : DV → Option α} : p6 P t x i k = (p6 P t x i some).bind k := by
 unfold p6
 repeat' split
 all_goals first | rfl | simp
theorem nQ {x : DV} {n : Nat} {β : Type} {k : Nat → Option β} : lq x n k = (lq x n some).bind k := by
 unfold lq
 repeat' split
 all_goals first | rfl | simp
theorem CJ {lo : Option DV} {k : Nat → Nat → Option α} {h : Nat} : tj lo k h = (tj lo (fun a b => some (a, b)) h).bind fun e => k e.1 e.2 := by
 unfold tj
 split
 ·rw [nQ, nQ (k := fun l => some (l, h))]
  cases lq _ h some <;> rfl
 ·rfl
theorem mL {lo hi : Option DV} {n : Nat} {k : Nat → Nat → Option α} : fI n lo hi k = (fI n lo hi (fun a b => some (a, b))).bind fun e => k e.1 e.2 := by
 unfold fI
 split
 ·rw [nQ, nQ (k := tj lo _)]
  cases lq _ n some with
  | none => rfl
  | some x => exact CJ
 ·exact CJ
theorem yA {t : TypeId} {H : Heap} {x : DV} {lo hi mx : Option DV} {k : DV → Option α} : lr P t H x lo hi mx k = (lr P t H x lo hi mx some).bind k := by
 have B : ∀ {n : Nat} {f : Nat → Nat → DV}, (fI n lo hi fun l h => k (f l h)) = (fI n lo hi fun l h => some (f l h)).bind k := by
  intro n f
  rw [mL, mL (k := fun l h => some (f l h))]
  cases fI n lo hi _ <;> rfl
 have B2 : ∀ {n : Nat} {f : Nat → DV}, (fI n none hi fun l h => if l = 0 then k (f h) else none) = (fI n none hi fun l h => if l = 0 then some (f h) else none).bind k := by
  intro n f
  rw [mL, mL (k := fun l h => if l = 0 then some (f h) else none)]
  cases fI n none hi _ with
  | none => rfl
  | some e =>
   simp only [ae]
   split <;> rfl
 unfold lr
 repeat' split
 all_goals first | rfl | exact B | exact B2 | simp
theorem gJ {d : Nat} {o : Oper} {H : Heap} {b : Blk} {v : Nat → DV} {k : DV → fL → Option α} : gc d o H b v k = (gc d o H b v fun v a => some (v, a)).bind fun e => k e.1 e.2 := by
 unfold gc
 simp only
 split <;> rfl
theorem AE {z : DV} {n : Int} {g : DV → Bool → DV} {k : DV → fL → Option α} : ∀ {ks : List (List Int)} {vs : List DV}, (wZ ks vs z n fun u b => k (g u b) none) = (wZ ks vs z n fun u b => some (g u b, (none : fL))).bind fun e => k e.1 e.2
 | [], vs => by cases vs <;> rfl
 | l :: ks, [] => rfl
 | l :: ks, v :: vs => by
  simp only [wZ]
  split
  ·rfl
  ·exact AE
theorem qa {d : Nat} {o : Oper} {T : List DV} {H : Heap} {k : DV → fL → Option α} : eO P d o T H k = (eO P d o T H fun v a => some (v, a)).bind fun e => k e.1 e.2 := by
 have bd : ∀ {x : Option DV} {k : DV → fL → Option α}, x.bind (fun v => k v none) = (x.bind fun v => some (v, (none : fL))).bind fun e => k e.1 e.2 := by
  intro x k
  cases x <;> rfl
 unfold eO
 simp only
 split
 all_goals try first | rfl | exact gJ
 ·rw [AD, AD (k := fun x => some (x, none))]; exact bd
 ·split
  ·exact gJ
  ·rfl
 ·split
  ·split
   ·exact gJ
   ·rfl
  ·rfl
 ·split
  ·split <;> rfl
  ·rfl
 ·repeat' split
  all_goals first | rfl | exact gJ
 ·split <;> rfl
 ·split <;> rfl
 ·split <;> rfl
 ·rw [CI, CI (k := fun x => some (x, none))]; exact bd
 ·split <;> rfl
 ·repeat' split
  all_goals rfl
 ·repeat' split
  all_goals first | rfl | exact gJ
 ·rw [yA, yA (k := fun x => some (x, none))]; exact bd
 ·split <;> rfl
 ·split <;> rfl
 ·split
  ·rw [tD, tD (k := fun x => some (x, none))]; exact bd
  ·rfl
 ·split
  ·rw [yz, yz (k := fun x => some (x, none))]; exact bd
  ·rfl
 ·split
  ·exact gJ
  ·rfl
 ·split
  ·split
   ·split <;> rfl
   ·rfl
  ·rfl
 ·split
  ·split
   ·split
    ·exact AE (g := fun u b => if _ = true then .tup [u, .sc (.bool b)] else u)
    ·rfl
   ·rfl
  ·rfl
 ·split
  ·split <;> rfl
  ·rfl
 ·split
  ·repeat' split
   all_goals rfl
  ·repeat' split
   all_goals rfl
  ·repeat' split
   all_goals rfl
  ·rfl
end
section
variable {P : Program} {α : Type} {H H' : Heap}
theorem Gj {T : List DV} {o : Oper} {x : Operand} {n : Nat} (ho : tm o = true) (hx : x ∈ o.op.operands.toList) (hn : n ∈ gI (dh T x)) : n ∈ fd T o := by
 unfold fd
 rw [if_pos ho]
 exact List.mem_flatMap.2 ⟨x, hx, hn⟩
theorem HH {t : TypeId} {x : DV} (h : ∀ n ∈ gI x, H n = H' n) : lp P t H x = lp P t H' x := by
 cases x <;> simp only [lp] <;> rw [h _ (by simp [gI])]
theorem Gk {t : TypeId} {x v : DV} (h : ∀ n ∈ gI x, H n = H' n) : p8 P t H x v = p8 P t H' x v := by
 unfold p8
 cases x <;> simp only <;> rw [h _ (by simp [gI])]
theorem CK {t : TypeId} {x : DV} {i : Int} {k : DV → Option α} (h : ∀ n ∈ gI x, H n = H' n) : iH P t H x i k = iH P t H' x i k := by
 unfold iH
 cases x <;> simp only <;> rw [h _ (by simp [gI])]
theorem Gl {t : TypeId} {x : DV} {lo hi mx : Option DV} {k : DV → Option α} (h : ∀ n ∈ gI x, H n = H' n) : lr P t H x lo hi mx k = lr P t H' x lo hi mx k := by
 cases mx with
 | some _ => rfl
 | none =>
  unfold lr
  cases x <;> first | (simp only; rw [h _ (by simp [gI])]; done) | (generalize P.underlying t = u; cases u with | none => rfl | some ty => (cases ty <;> first | rfl | (simp only; rw [h _ (by simp [gI])]; done) | (rename_i v _; cases v <;> first | rfl | (rename_i A _ _; cases A <;> rfl)) | (rename_i v; cases v <;> first | rfl | (rename_i A _ _; cases A <;> rfl)) | (rename_i v _ _; cases v <;> first | rfl | (rename_i A _ _; cases A <;> rfl))))
theorem J3 {t : TypeId} {x : DV} (h : ∀ n ∈ gI x, H n = H' n) : zL P t H x = zL P t H' x := by
 unfold zL
 cases x <;> first | (simp only; rw [h _ (by simp [gI])]; done) | (generalize P.underlying t = u; cases u with | none => rfl | some ty => (cases ty <;> first | rfl | (simp only; rw [h _ (by simp [gI])]; done) | (rename_i v _; cases v <;> first | rfl | (rename_i A _ _; cases A <;> rfl)) | (rename_i v; cases v <;> first | rfl | (rename_i A _ _; cases A <;> rfl)) | (rename_i v _ _; cases v <;> first | rfl | (rename_i A _ _; cases A <;> rfl))))
theorem AF : ∀ {m b : Nat}, (∀ n, b ≤ n → n ≤ b + m → H n = H' n) → ln H m b = ln H' m b ∧ b ≤ ln H m b ∧ ln H m b ≤ b + m
 | 0, b, h => ⟨rfl, ak _, ak _⟩
 | m + 1, b, h => by
  have h0 := h b (ak _) (by omega)
  obtain ⟨g1, g2, g3⟩ := AF (m := m) (b := b + 1) (fun n h1 h2 => h n (by omega) (by omega))
  simp only [ln]
  rw [← h0]
  cases H b with
  | none => exact ⟨rfl, ak _, Nat.le_add_right _ _⟩
  | some _ => exact ⟨g1, aT (Nat.le_succ b) g2, aT g3 (by omega)⟩
theorem ly {d : Nat} {o : Oper} {b : Blk} {v : Nat → DV} {k : DV → fL → Option α} (h : ∀ n, base d o.dst ≤ n → n < base d o.dst + 64 → H n = H' n) : gc d o H b v k = gc d o H' b v k := by
 obtain ⟨g1, g2, g3⟩ := AF (m := 63) (b := base d o.dst) (fun n h1 h2 => h n h1 (by omega))
 unfold gc
 simp only
 rw [← g1, h _ g2 (by omega)]
theorem HI {s : Sh} {y : DV} (h : ∀ n ∈ gI y, H n = H' n) : ez H s y = ez H' s y := by
 cases y
 case rw n => simp only [ez]; rw [h n (by simp [gI])]
 case sl n o l => simp only [ez]; rw [h n (by simp [gI])]
 case ps n o p m l => simp only [ez]; rw [h n (by simp [gI])]
 case sc v =>
  cases v with
  | slice a n c => cases a <;> rfl
  | _ => rfl
 all_goals rfl
theorem Mw {d : Nat} {o : Oper} {T T' : List DV} {k : DV → fL → Option α} (hT : ∀ x ∈ o.op.operands.toList, dh T x = dh T' x) (hR : ∀ n ∈ fd T o, H n = H' n) (hB : zO o = true → ∀ n, base d o.dst ≤ n → n < base d o.dst + 64 → H n = H' n) : eO P d o T H k = eO P d o T' H' k := by
 have hN : tm o = true → ∀ x ∈ o.op.operands.toList, ∀ n ∈ gI (dh T' x), H n = H' n := fun ho x hx n hn => hR n (Gj ho hx (by rw [hT x hx]; exact hn))
 have pairs : ∀ ps : Array (Nat × Operand), (∀ x ∈ (ps.toList.map (·.2)), dh T x = dh T' x) → (ps.toList.map fun e => (e.1, dh T e.2)) = ps.toList.map fun e => (e.1, dh T' e.2) := fun ps hp => bz fun p hm => by rw [hp p.2 (bf hm)]
 have pairs2 : ∀ ps : Array (Nat × Operand), (∀ x ∈ (ps.toList.map (·.2)), dh T x = dh T' x) → (ps.toList.map fun e => dh T e.2) = ps.toList.map fun e => dh T' e.2 := fun ps hp => bz fun p hm => by rw [hp p.2 (bf hm)]
 obtain ⟨dst, op, type, pos, after, guard⟩ := o
 cases op
 case move x => simp only [eO]; rw [hT x (by simp [Op.operands])]
 case assign x => simp only [eO]; rw [hT x (by simp [Op.operands])]
 case pick c a b => simp only [eO]; rw [hT c (by simp [Op.operands]), hT a (by simp [Op.operands]), hT b (by simp [Op.operands])]
 case alloc e =>
  simp only [eO]
  split
  ·exact ly (hB rfl)
  ·rfl
 case box e x =>
  simp only [eO]
  rw [hT x (by simp [Op.operands])]
  repeat' split
  all_goals first | rfl | exact ly (hB rfl)
 case build t ps => simp only [eO]; rw [pairs ps fun x hx => hT x (by simpa [Op.operands] using hx)]
 case buildSlice t n ps =>
  simp only [eO]
  rw [pairs2 ps fun x hx => hT x (by simpa [Op.operands] using hx)]
  repeat' split
  all_goals first | rfl | exact ly (hB rfl)
 case load t x => simp only [eO]; rw [hT x (by simp [Op.operands]), HH (hN rfl x (by simp [Op.operands]))]
 case store t x v => simp only [eO]; rw [hT x (by simp [Op.operands]), hT v (by simp [Op.operands]), Gk (hN rfl x (by simp [Op.operands]))]
 case nilCheck x => simp only [eO]; rw [hT x (by simp [Op.operands])]
 case binOp q t x y z => simp only [eO]; rw [hT x (by simp [Op.operands]), hT y (by simp [Op.operands])]
 case unOp q t x => simp only [eO]; rw [hT x (by simp [Op.operands])]
 case convert q t x =>
  simp only [eO]
  rw [hT x (by simp [Op.operands])]
  have he : ez H (.int .u8) (dh T' x) = ez H' (.int .u8) (dh T' x) := HI (hN rfl x (by simp [Op.operands]))
  generalize dh T' x = y at he
  split
  ·rfl
  ·rfl
  ·rw [he]
  ·rfl
  ·rfl
 case makeFunc F a b =>
  simp only [eO]
  rw [bz (l := a.toList) fun x hx => hT x (by simp only [Op.operands, Array.toList_append, aA]; exact .inl hx), bz (l := b.toList) fun x hx => hT x (by simp only [Op.operands, Array.toList_append, aA]; exact .inr hx)]
 case makeSlice t l c =>
  simp only [eO]
  rw [hT l (by simp [Op.operands]), hT c (by simp [Op.operands])]
  repeat' split
  all_goals first | rfl | exact ly (hB rfl)
 case slice t x lo hi mx =>
  simp only [eO]
  have m : ∀ y : Option Operand, (∀ z, y = some z → dh T z = dh T' z) → y.map (dh T) = y.map (dh T') := fun y hy => by
   cases y with
   | none => rfl
   | some z => simp [hy z rfl]
  rw [hT x (by simp [Op.operands]), m lo fun z hz => hT z (by simp [Op.operands, hz]), m hi fun z hz => hT z (by simp [Op.operands, hz]), m mx fun z hz => hT z (by simp [Op.operands, hz]), Gl (hN rfl x (by simp [Op.operands]))]
 case fieldAddr t x f => simp only [eO]; rw [hT x (by simp [Op.operands])]
 case field t x f => simp only [eO]; rw [hT x (by simp [Op.operands])]
 case indexAddr t x i =>
  simp only [eO]
  rw [hT x (by simp [Op.operands]), hT i (by simp [Op.operands])]
  split
  ·exact CK (hN rfl x (by simp [Op.operands]))
  ·rfl
 case index t x i => simp only [eO]; rw [hT x (by simp [Op.operands]), hT i (by simp [Op.operands])]
 case makeMap t r =>
  cases r with
  | none =>
   simp only [eO]
   split
   ·exact ly (hB rfl)
   ·rfl
  | some r => rfl
 case insert t m i x =>
  simp only [eO]
  rw [hT m (by simp [Op.operands]), hT i (by simp [Op.operands]), hT x (by simp [Op.operands])]
  split
  ·rename_i hm _
   rw [hN rfl m (by simp [Op.operands]) _ (by rw [hm]; simp [gI])]
  ·rfl
 case lookup t x i c =>
  simp only [eO]
  have : lu H (dh T' x) = lu H' (dh T' x) := by
   have hx := hN rfl x (by simp [Op.operands])
   unfold lu
   cases hd : dh T' x <;> simp only
   rw [hx _ (by rw [hd]; simp [gI])]
  rw [hT x (by simp [Op.operands]), hT i (by simp [Op.operands]), this]
 case extract x i => simp only [eO]; rw [hT x (by simp [Op.operands])]
 case call c =>
  have hA : c.args.toList.map (dh T) = c.args.toList.map (dh T') := bz fun x hx => hT x (by simp [Op.operands, Call.operands, Array.mem_toList_iff.1 hx])
  simp only [eO]
  rw [hA]
  split
  ·split
   ·rename_i x t hx ht
    have hm : x ∈ (Op.call c).operands.toList := by
     have : x ∈ c.args.toList := by rw [hx]; simp
     simp [Op.operands, Call.operands, Array.mem_toList_iff.1 this]
    rw [hT x hm, J3 (hN rfl x hm)]
   ·rfl
  ·rfl
  ·rfl
  ·rfl
 all_goals rfl
end
abbrev St := List DV × Heap
def eQ (u : List Nat) (n : Nat) (b : Option Blk) : Option Blk := u.foldl (fun b m => if n = m then none else match b with | some b => some (b.sub m .none) | none => none) b
theorem ju : ∀ (u : List Nat) (H : Heap) (n : Nat), (dv u H) n = eQ u n (H n)
 | [], H, n => rfl
 | m :: u, H, n => by
  show (dv u (H.sub m .none)) n = eQ u n _
  rw [ju u]
  rfl
theorem pK : ∀ (u : List Nat) (n : Nat), eQ u n none = none
 | [], n => rfl
 | m :: u, n => by
  show eQ u n (if n = m then none else none) = none
  rw [ite_self]
  exact pK u n
mutual
theorem DV.sub_clean {m : Nat} {g : Sub} : ∀ (d : DV), m ∉ d.rows → d.sub m g = d
 | .rp n sz i p, h => by
  have : n ≠ m := fun e => h (by simp [DV.rows, e])
  simp [DV.sub, this]
 | .rw n, h => by
  have : n ≠ m := fun e => h (by simp [DV.rows, e])
  simp [DV.sub, this]
 | .sl n o l, h => by
  have : n ≠ m := fun e => h (by simp [DV.rows, e])
  simp [DV.sub, this]
 | .fn F a b, h => by
  simp only [DV.rows, aA, not_or] at h
  simp only [DV.sub]
  rw [gK a h.1, gK b h.2]
 | .agg cs, h => by
  simp only [DV.rows] at h
  simp only [DV.sub]
  rw [gK cs h]
 | .tup cs, h => by
  simp only [DV.rows] at h
  simp only [DV.sub]
  rw [gK cs h]
 | .tab ks vs, h => by
  simp only [DV.rows] at h
  simp only [DV.sub]
  rw [gK vs h]
 | .undef, h => rfl
 | .sc v, h => rfl
 | .ptr n o p, h => rfl
 | .pi its, h => rfl
 | .vs s xs, h => rfl
 | .arr s n xs, h => rfl
 | .mh n, h => rfl
 | .fp _ _, h => rfl
 | .ps _ _ _ _ _, h => rfl
theorem gK {m : Nat} {g : Sub} : ∀ (l : List DV), m ∉ mJ l → d9 m g l = l
 | [], h => rfl
 | d :: r, h => by
  simp only [mJ, aA, not_or] at h
  simp only [d9]
  rw [DV.sub_clean d h.1, gK r h.2]
end
theorem Blk.sub_clean {m : Nat} {g : Sub} {b : Blk} (h : m ∉ mK (some b)) : b.sub m g = b := by
 cases b with
 | obj cs => simp only [Blk.sub]; rw [gK cs h]
 | mp ks vs => simp only [Blk.sub]; rw [gK vs h]
 | row E s xs => rfl
 | fam t k xs => rfl
theorem disjB_iff {u h : List Nat} : fi u h = true ↔ ∀ n ∈ u, n ∉ h := by
 unfold fi
 simp
theorem wv (m : Nat) (u : List Nat) (n : Nat) (b : Option Blk) : eQ (m :: u) n b = eQ u n (if n = m then none else match b with | some b => some (b.sub m .none) | none => none) := rfl
theorem gv : ∀ {u : List Nat} {n : Nat} {b : Option Blk}, n ∉ u → fi u (mK b) = true → eQ u n b = b
 | [], n, b, h1, h2 => rfl
 | m :: u, n, b, h1, h2 => by
  rw [disjB_iff] at h2
  simp only [aB, not_or] at h1
  rw [wv, if_neg h1.1]
  cases b with
  | none => exact pK u n
  | some b =>
   simp only
   rw [Blk.sub_clean (h2 m (aD ..))]
   exact gv h1.2 (disjB_iff.2 fun k hk => h2 k (az _ hk))
mutual
theorem DV.sub_comm (m k : Nat) : ∀ (d : DV), (d.sub m .none).sub k .none = (d.sub k .none).sub m .none
 | .rp n sz i p => by
  by_cases h1 : n = m <;> by_cases h2 : n = k <;> simp [DV.sub, h1, h2] <;> (try split) <;> simp_all [DV.sub]
 | .rw n => by
  by_cases h1 : n = m <;> by_cases h2 : n = k <;> simp [DV.sub, h1, h2, Sub.whole] <;> (try split) <;> simp_all [DV.sub, Sub.whole]
 | .sl n o l => by
  by_cases h1 : n = m <;> by_cases h2 : n = k <;> simp [DV.sub, h1, h2, Sub.part] <;> (try split) <;> simp_all [DV.sub, Sub.part]
 | .fn F a b => by simp only [DV.sub]; rw [gL m k a, gL m k b]
 | .agg cs => by simp only [DV.sub]; rw [gL m k cs]
 | .tup cs => by simp only [DV.sub]; rw [gL m k cs]
 | .tab ks vs => by simp only [DV.sub]; rw [gL m k vs]
 | .undef => rfl
 | .sc v => rfl
 | .ptr n o p => rfl
 | .pi its => rfl
 | .vs s xs => rfl
 | .arr s n xs => rfl
 | .mh n => rfl
 | .fp _ _ => rfl
 | .ps _ _ _ _ _ => rfl
theorem gL (m k : Nat) : ∀ (l : List DV), d9 k .none (d9 m .none l) = d9 m .none (d9 k .none l)
 | [] => rfl
 | d :: r => by
  simp only [d9]
  rw [DV.sub_comm m k d, gL m k r]
end
theorem Blk.sub_comm (m k : Nat) : ∀ (b : Blk), (b.sub m .none).sub k .none = (b.sub k .none).sub m .none
 | .obj cs => by simp only [Blk.sub]; rw [gL]
 | .mp ks vs => by simp only [Blk.sub]; rw [gL]
 | .row E s xs => rfl
 | .fam t k xs => rfl
def gC (n m : Nat) (b : Option Blk) : Option Blk := if n = m then none else match b with | some b => some (b.sub m .none) | none => none
theorem lz (n m : Nat) : gC n m none = none := by unfold gC; split <;> rfl
theorem nR (n : Nat) (b : Option Blk) : gC n n b = none := by unfold gC; rw [if_pos rfl]
theorem rk {n m : Nat} (h : n ≠ m) (b : Blk) : gC n m (some b) = some (b.sub m .none) := by unfold gC; rw [if_neg h]
theorem Gm (n m k : Nat) (b : Option Blk) : gC n k (gC n m b) = gC n m (gC n k b) := by
 cases b with
 | none => rw [lz, lz, lz]
 | some b =>
  by_cases h1 : n = m
  ·subst h1
   rw [nR, lz, nR]
  ·by_cases h2 : n = k
   ·subst h2
    rw [nR, nR, lz]
   ·rw [rk h1, rk h2, rk h2, rk h1, Blk.sub_comm]
theorem tE (n m : Nat) : ∀ (u : List Nat) (b : Option Blk), eQ u n (gC n m b) = gC n m (eQ u n b)
 | [], b => rfl
 | k :: u, b => by
  show eQ u n (gC n k (gC n m b)) = gC n m (eQ u n (gC n k b))
  rw [Gm, tE n m u]
theorem ww (n : Nat) : ∀ (u v : List Nat) (b : Option Blk), eQ u n (eQ v n b) = eQ v n (eQ u n b)
 | u, [], b => rfl
 | u, m :: v, b => by
  show eQ u n (eQ v n (gC n m b)) = eQ v n (gC n m (eQ u n b))
  rw [ww n u v, tE]
def rl (u : List Nat) (d : DV) : DV := u.foldl (fun d m => d.sub m .none) d
theorem yB (m : Nat) : ∀ (T : List DV) (t : Nat), (d9 m .none T).getD t .undef = (T.getD t .undef).sub m .none
 | [], t => rfl
 | d :: r, 0 => rfl
 | d :: r, t + 1 => by
  have := yB m r t
  simpa [d9] using this
theorem wx (m : Nat) : ∀ (T : List DV), (d9 m .none T).length = T.length
 | [] => rfl
 | d :: r => by simp [d9, wx m r]
theorem mM : ∀ (u : List Nat) (T : List DV) (t : Nat), (dJ u T).getD t .undef = rl u (T.getD t .undef)
 | [], T, t => rfl
 | m :: u, T, t => by
  show (dJ u (d9 m .none T)).getD t .undef = rl u ((T.getD t .undef).sub m .none)
  rw [mM u, yB]
theorem kv : ∀ (u : List Nat) (T : List DV), (dJ u T).length = T.length
 | [], T => rfl
 | m :: u, T => by
  show (dJ u (d9 m .none T)).length = _
  rw [kv u, wx]
theorem mO : ∀ {u : List Nat} {d : DV}, fi u d.rows = true → rl u d = d
 | [], d, h => rfl
 | m :: u, d, h => by
  rw [disjB_iff] at h
  show rl u (d.sub m .none) = d
  rw [DV.sub_clean d (h m (aD ..))]
  exact mO (disjB_iff.2 fun k hk => h k (az _ hk))
theorem CL (m : Nat) (v : DV) : ∀ (T : List DV) (d : Nat), d9 m .none (T.set d v) = (d9 m .none T).set d (v.sub m .none)
 | [], d => rfl
 | x :: r, 0 => rfl
 | x :: r, d + 1 => by simp [d9, CL m v r d]
theorem yC : ∀ (u : List Nat) (T : List DV) (d : Nat) (v : DV), dJ u (T.set d v) = (dJ u T).set d (rl u v)
 | [], T, d, v => rfl
 | m :: u, T, d, v => by
  show dJ u (d9 m .none (T.set d v)) = (dJ u (d9 m .none T)).set d (rl u (v.sub m .none))
  rw [CL, yC u]
theorem yD {u : List Nat} {T : List DV} {d : Option Tmp} {v : DV} (h : fi u v.rows = true) : dJ u (dE T d v) = dE (dJ u T) d v := by
 cases d with
 | none => rfl
 | some d => simp only [dE]; rw [yC, mO h]
theorem yE (m : Nat) : ∀ (u : List Nat) (T : List DV), dJ u (d9 m .none T) = d9 m .none (dJ u T)
 | [], T => rfl
 | k :: u, T => by
  show dJ u (d9 k .none (d9 m .none T)) = d9 m .none (dJ u (d9 k .none T))
  rw [gL, yE m u]
theorem wy : ∀ (u v : List Nat) (T : List DV), dJ u (dJ v T) = dJ v (dJ u T)
 | u, [], T => rfl
 | u, m :: v, T => by
  show dJ u (dJ v (d9 m .none T)) = dJ v (d9 m .none (dJ u T))
  rw [wy u v, yE]
theorem vH (H : Heap) (a : fL) : H.act2 (Act2.of a) = H.act a := by
 funext n
 cases a with
 | none => rfl
 | some p =>
  obtain ⟨m, b⟩ := p
  unfold Heap.act2 Act2.of Heap.act Heap.set
  by_cases e : n = m
  ·simp [e]
  ·simp [e]
   rfl
structure Rec where
 o : Oper
 v : DV
 act : Act2
 r : List Nat
 h : List Nat
 T : List DV
 H : Heap
def Rec.did (e : Rec) : Did := ⟨e.o, e.r, e.act.W, e.act.u, e.h, e.T, e.H⟩
def Rec.eff (e : Rec) (s : St) : St := (dE (dJ e.act.u s.1) e.o.dst e.v, s.2.act2 e.act)
def eV : Nat → (Nat → Bool) → List Rec → St → St
 | _, _, [], s => s
 | m, S, e :: r, s => eV (m + 1) S r (if S m then e.eff s else s)
def dr : List Rec → St → St
 | [], s => s
 | e :: r, s => dr r (e.eff s)
def Agr (L : List Tmp) (N : Nat → Prop) (s s' : St) : Prop := s.1.length = s'.1.length ∧ (∀ t ∈ L, s.1.getD t .undef = s'.1.getD t .undef) ∧ ∀ n, N n → s.2 n = s'.2 n
def yF (e : Rec) (L : List Tmp) (N : Nat → Prop) (s : St) : Prop := (∀ d, e.o.dst = some d → d ∉ L) ∧ (∀ n ∈ e.act.W, ¬ N n) ∧ (∀ n, N n → eQ e.act.u n (s.2 n) = s.2 n) ∧ ∀ t ∈ L, rl e.act.u (s.1.getD t .undef) = s.1.getD t .undef
section
variable {L : List Tmp} {N : Nat → Prop} {s s' : St} {e : Rec} {S S' : Nat → Bool}
theorem xe {T : List DV} {d : Option Tmp} {v : DV} {t : Nat} (h : ∀ x, d = some x → x ≠ t) : (dE T d v).getD t .undef = T.getD t .undef := by
 cases d with
 | none => rfl
 | some d =>
  have : d ≠ t := h d rfl
  simp [dE, aq, b7, this]
theorem yG (T : List DV) (d : Option Tmp) (v : DV) : (dE T d v).length = T.length := by cases d <;> simp [dE]
theorem Agr.both (h : Agr L N s s') (e : Rec) : Agr L N (e.eff s) (e.eff s') := by
 obtain ⟨h1, h2, h3⟩ := h
 refine ⟨?_, fun t ht => ?_, fun n hn => ?_⟩
 ·simp only [Rec.eff, yG, kv, h1]
 ·simp only [Rec.eff]
  by_cases hd : e.o.dst = some t
  ·rw [hd]
   simp only [dE, aq, b7, kv, h1, if_true]
  ·have hne : ∀ x, e.o.dst = some x → x ≠ t := fun x hx e' => hd (by rw [hx, e'])
   rw [xe hne, xe hne, mM, mM, h2 t ht]
 ·simp only [Rec.eff, Heap.act2]
  split
  ·rfl
  ·rw [ju, ju, h3 n hn]
theorem Agr.right (h : Agr L N s s') (hf : yF e L N s) : Agr L N s (e.eff s') := by
 obtain ⟨h1, h2, h3⟩ := h
 refine ⟨?_, fun t ht => ?_, fun n hn => ?_⟩
 ·simp only [Rec.eff, yG, kv, h1]
 ·simp only [Rec.eff]
  rw [xe (fun x hx e' => hf.1 x hx (e' ▸ ht)), mM, ← h2 t ht, hf.2.2.2 t ht]
 ·simp only [Rec.eff, Heap.act2]
  rw [if_neg (fun hc => hf.2.1 n (by simpa using hc) hn), ju, ← h3 n hn, hf.2.2.1 n hn]
theorem Agr.symm (h : Agr L N s s') : Agr L N s' s := ⟨h.1.symm, fun t ht => (h.2.1 t ht).symm, fun n hn => (h.2.2 n hn).symm⟩
theorem Agr.left (h : Agr L N s s') (hf : yF e L N s) : Agr L N (e.eff s) s' := by
 refine (h.symm.right ⟨hf.1, hf.2.1, fun n hn => ?_, fun t ht => ?_⟩).symm
 ·rw [← h.2.2 n hn]
  exact hf.2.2.1 n hn
 ·rw [← h.2.1 t ht]
  exact hf.2.2.2 t ht
theorem Fc : ∀ {l : List Rec} {m : Nat} {s s' : St}, Agr L N s s' → (∀ i e, l[i]? = some e → S (m + i) = false → yF e L N (dr (l.take i) s)) → Agr L N (dr l s) (eV m S l s')
 | [], _, _, _, h, _ => h
 | e :: r, m, s, s', h, hO => by
  simp only [dr, eV]
  refine Fc ?_ (fun i e' h1 h2 => hO (i + 1) e' h1 (by rw [← h2]; congr 1; omega))
  split
  ·exact h.both e
  ·rename_i hS
   exact h.left (hO 0 e rfl (by simpa using hS))
theorem Fd : ∀ {l : List Rec} {m : Nat} {s s' : St}, Agr L N s s' → (∀ i e, l[i]? = some e → S (m + i) = true → yF e L N s) → Agr L N s (eV m S l s')
 | [], _, _, _, h, _ => h
 | e :: r, m, s, s', h, hO => by
  simp only [eV]
  refine Fd ?_ (fun i e' h1 h2 => hO (i + 1) e' h1 (by rw [← h2]; congr 1; omega))
  split
  ·rename_i hS
   exact h.right (hO 0 e rfl (by simpa using hS))
  ·exact h
theorem pL : ∀ {l l' : List Rec} {m : Nat} {s : St}, eV m S (l ++ l') s = eV (m + l.length) S l' (eV m S l s)
 | [], _, _, _ => rfl
 | e :: r, l', m, s => by
  simp only [List.cons_append, eV, aH]
  rw [pL]
  congr 1
  omega
theorem pM : ∀ {l l' : List Rec} {s : St}, dr (l ++ l') s = dr l' (dr l s)
 | [], _, _ => rfl
 | e :: r, l', s => by simp only [List.cons_append, dr]; exact pM
theorem rm : ∀ {l : List Rec} {m : Nat} {s : St}, (∀ i, i < l.length → S (m + i) = S' (m + i)) → eV m S l s = eV m S' l s
 | [], _, _, _ => rfl
 | e :: r, m, s, h => by
  simp only [eV]
  rw [show S m = S' m from h 0 (by simp), rm (l := r) (m := m + 1) (fun i hi => by
   have := h (i + 1) (by simp; omega)
   rw [show m + 1 + i = m + (i + 1) by omega]
   exact this)]
theorem xf : ∀ {l : List Rec} {m : Nat} {s : St}, (∀ i, i < l.length → S (m + i) = true) → eV m S l s = dr l s
 | [], _, _, _ => rfl
 | e :: r, m, s, h => by
  simp only [eV, dr]
  rw [show S m = true from h 0 (by simp), if_pos rfl, xf (l := r) (m := m + 1) (fun i hi => by
   have := h (i + 1) (by simp; omega)
   rw [show m + 1 + i = m + (i + 1) by omega]
   exact this)]
def Com (e f : Rec) : Prop := (∀ d, e.o.dst = some d → f.o.dst ≠ some d) ∧ (∀ n ∈ e.act.W, n ∉ f.act.W) ∧ (∀ n ∈ e.act.W, eQ f.act.u n (e.act.B n) = e.act.B n) ∧ (∀ n ∈ f.act.W, eQ e.act.u n (f.act.B n) = f.act.B n) ∧ fi e.act.u f.v.rows = true ∧ fi f.act.u e.v.rows = true
theorem Com.eff {e f : Rec} (h : Com e f) (s : St) : f.eff (e.eff s) = e.eff (f.eff s) := by
 obtain ⟨h1, h2, h3, h4, h5, h6⟩ := h
 simp only [Rec.eff, ah]
 constructor
 ·rw [yD h6, yD h5, wy]
  cases he : e.o.dst with
  | none => rfl
  | some d =>
   cases hf : f.o.dst with
   | none => rfl
   | some d' =>
    have : d ≠ d' := fun e' => h1 d he (e' ▸ hf)
    simp only [dE]
    exact List.set_comm _ _ this
 ·funext n
  simp only [Heap.act2, ju]
  by_cases he : n ∈ e.act.W
  ·have hf : n ∉ f.act.W := h2 n he
   have c1 : e.act.W.contains n = true := by simpa using he
   have c2 : ¬ f.act.W.contains n = true := by simpa using hf
   rw [if_neg c2, if_pos c1, if_pos c1, h3 n he]
  ·have c1 : ¬ e.act.W.contains n = true := by simpa using he
   by_cases hf : n ∈ f.act.W
   ·have c2 : f.act.W.contains n = true := by simpa using hf
    rw [if_pos c2, if_neg c1, if_pos c2, h4 n hf]
   ·have c2 : ¬ f.act.W.contains n = true := by simpa using hf
    rw [if_neg c2, if_neg c1, if_neg c1, if_neg c2]
    exact ww n _ _ _
theorem CM : ∀ {l : List Rec} {m : Nat} {s : St}, (∀ i f, l[i]? = some f → S (m + i) = true → Com e f) → eV m S l (e.eff s) = e.eff (eV m S l s)
 | [], _, _, _ => rfl
 | f :: r, m, s, h => by
  simp only [eV]
  have hr := CM (l := r) (m := m + 1) (s := if S m then f.eff s else s) (fun i f' h1 h2 => h (i + 1) f' h1 (by rw [← h2]; congr 1; omega))
  rw [← hr]
  congr 1
  split
  ·rename_i hS
   exact (h 0 f rfl (by simpa using hS)).eff s
  ·rfl
theorem J4 {l : List Rec} {m j : Nat} {s : St} (hj : l[j]? = some e) (hS : S (m + j) = false) (hc : ∀ k f, j < k → l[k]? = some f → S (m + k) = true → Com e f) : eV m (fun i => S i || i == m + j) l s = e.eff (eV m S l s) := by
 have hlt := (List.getElem?_eq_some_iff.1 hj).1
 have hsplit : l = l.take j ++ e :: l.drop (j + 1) := by
  have : l[j] = e := (List.getElem?_eq_some_iff.1 hj).2
  rw [← this, List.getElem_cons_drop, bE]
 have hlen : (l.take j).length = j := by simp; omega
 generalize hp : l.take j = p at hsplit hlen
 generalize hq : l.drop (j + 1) = q at hsplit
 subst hsplit
 simp only [pL, eV, hlen, hS, bc, Bool.or_true, if_true, aL, aC]
 rw [rm (S := fun i => S i || i == m + j) (S' := S) (l := p) (m := m) (fun i hi => by
   have : (m + i == m + j) = false := by rw [aX]; omega
   simp only [this, bo]),
  rm (S := fun i => S i || i == m + j) (S' := S) (l := q) (m := m + j + 1) (fun i hi => by
   have : (m + j + 1 + i == m + j) = false := by rw [aX]; omega
   simp only [this, bo])]
 refine CM fun i f h1 h2 => hc (j + 1 + i) f (by omega) ?_ (by rw [← h2]; congr 1; omega)
 rw [aW (by omega), hlen, show j + 1 + i - j = i + 1 by omega]
 exact h1
theorem J5 {l : List Rec} {m j : Nat} {s : St} (hj : l[j]? = some e) (hS : S (m + j) = false) (h1 : ∀ i f, i < j → l[i]? = some f → S (m + i) = false → yF f L N (dr (l.take i) s)) (h2 : ∀ k f, j < k → l[k]? = some f → S (m + k) = true → yF f L N (dr (l.take j) s)) : Agr L N (dr (l.take j) s) (eV m S l s) := by
 have hlt := (List.getElem?_eq_some_iff.1 hj).1
 have hsplit : l = l.take j ++ e :: l.drop (j + 1) := by
  have : l[j] = e := (List.getElem?_eq_some_iff.1 hj).2
  rw [← this, List.getElem_cons_drop, bE]
 have hlen : (l.take j).length = j := by simp; omega
 have htk : ∀ i, i < j → (l.take j).take i = l.take i := fun i hi => by rw [ch, cw (by omega)]
 generalize hp : l.take j = p at *
 generalize hq : l.drop (j + 1) = q at hsplit
 have h1' : ∀ i f, i < j → l[i]? = some f → S (m + i) = false → yF f L N (dr (p.take i) s) := fun i f g1 g2 g3 => by rw [htk i g1]; exact h1 i f g1 g2 g3
 subst hsplit
 simp only [pL, eV, hlen, hS, aL, aC]
 refine Fd (Fc ⟨rfl, fun _ _ => rfl, fun _ _ => rfl⟩ fun i f g1 g2 => ?_) fun i f g1 g2 => ?_
 ·have hi := (List.getElem?_eq_some_iff.1 g1).1
  exact h1' i f (by omega) (by rw [aO hi]; exact g1) g2
 ·refine h2 (j + 1 + i) f (by omega) ?_ (by rw [← g2]; congr 1; omega)
  rw [aW (by omega), hlen, show j + 1 + i - j = i + 1 by omega]
  exact g1
end
section
variable {α : Type} (cx : Cx) (d : Nat) (ops : Array Oper)
def gM (o : Oper) (T : List DV) : Option Bool := match o.guard with
 | none => some true
 | some (j, want) => match (ops[j]?).bind (·.dst) with
  | some g => match T.getD g .undef with
   | .sc (.bool b) => some (b == want)
   | .tup [] => some false
   | _ => none
  | none => none
def PA (o : Oper) (T : List DV) (H : Heap) (v : DV) (act : Act2) : Prop :=
 (∃ a, eO cx.P d o T H (fun v a => some (v, a)) = some (v, a) ∧ act = Act2.of a) ∨
 (∃ c f g x y S X m Y, o.op = .call c ∧ c.callee = .value f ∧ dh T f = .fn (.func g) x y ∧ fY cx.P g = true ∧ S ∈ cx.specs g ∧ FS.pure S = true ∧ S.tin.pr ⟨[], []⟩ (x ++ c.args.toList.map (dh T) ++ y) (fun _ => none) = some (X, m) ∧ S.fn X = some Y ∧ v = gV (S.tout.T nam0 (S.out Y)) ∧ act = Act2.of none) ∨
 ∃ c f g x y, o.op = .call c ∧ c.callee = .value f ∧ dh T f = .fn (.func g) x y ∧ oq cx g (x ++ c.args.toList.map (dh T) ++ y) = some v ∧ act = Act2.of none
def PB (o : Oper) (T : List DV) (H : Heap) (v : DV) (act : Act2) : Prop :=
 ∃ c f g x y S X m Y b, o.op = .call c ∧ c.callee = .value f ∧ dh T f = .fn (.func g) x y ∧ fY cx.P g = true ∧ S ∈ cx.specs g ∧ S.tin.pr ⟨[], []⟩ (x ++ c.args.toList.map (dh T) ++ y) H = some (X, m) ∧ S.fn X = some Y ∧ S.tout.free (kA b m) ((dv m.u H).away m) = true ∧ v = gV (S.tout.T (kA b m) (S.out Y)) ∧ act = ⟨m.u, m.σ.map (·.2) ++ m.u ++ S.tout.names (kA b m), S.tout.H (kA b m) (S.out Y) fun _ => none⟩
def PC (o : Oper) (T : List DV) (H : Heap) (v : DV) (act : Act2) : Prop :=
 ∃ c x y t e s ys, o.op = .call c ∧ c.callee = .builtin .append ∧ c.args.toList = [x, y] ∧ c.argTypes.toList = [t, t] ∧ cx.P.underlying t = some (.slice e) ∧ gF cx.P 8 e = some s ∧ j9 cx.P e s = true ∧ ez H s (dh T y) = some ys ∧ d7 cx.P d o e s (dh T x) ys H (fun v a => some (v, a)) = some (v, act)
def yH (o : Oper) (T : List DV) (H : Heap) (v : DV) (act : Act2) : Prop :=
 ∃ b, gM ops o T = some b ∧ ((b = true ∧ PA cx d o T H v act) ∨ (b = false ∧ v = .tup [] ∧ act = Act2.of none))
def rn (o : Oper) (T : List DV) (H : Heap) (v : DV) (act : Act2) : Prop := gM ops o T = some true ∧ PB cx o T H v act
def yI (o : Oper) (T : List DV) (H : Heap) (v : DV) (act : Act2) : Prop := gM ops o T = some true ∧ PC cx d o T H v act
def vI (o : Oper) (T : List DV) (H : Heap) (v : DV) (act : Act2) (rd : List Nat) : Prop := gM ops o T = some true ∧
 ∃ c f g x y S X m Y, o.op = .call c ∧ c.callee = .value f ∧ dh T f = .fn (.func g) x y ∧ fY cx.P g = true ∧ S ∈ cx.qs g ∧ S.tin.pr ⟨[], []⟩ (x ++ c.args.toList.map (dh T) ++ y) H = some (X, m) ∧ S.fn X = some Y ∧ v = gV (S.tout.T nam0 (S.out Y)) ∧ act = ⟨[], [], fun _ => none⟩ ∧ rd = m.σ.map (·.2) ++ m.u
def qc (o : Oper) (T : List DV) (H : Heap) (v : DV) (act : Act2) (rd : List Nat) : Prop := gM ops o T = some true ∧
 ∃ c f g x y S X m Y, o.op = .call c ∧ c.callee = .value f ∧ dh T f = .fn (.func g) x y ∧ fY cx.P g = true ∧ S ∈ cx.qr g ∧ S.tin.pr ⟨[], []⟩ (x ++ c.args.toList.map (dh T) ++ y) H = some (X, m) ∧ S.fn X = some Y ∧ H (base d o.dst) = none ∧ v = .rw (base d o.dst) ∧ act = ⟨[], [base d o.dst], fun _ => some (.row S.E S.s Y)⟩ ∧ rd = m.σ.map (·.2) ++ m.u ++ [base d o.dst]
end
section
variable {α : Type} {cx : Cx} {d : Nat} {ops : Array Oper} {o : Oper} {T T' : List DV} {H H' : Heap} {v : DV} {act : Act2}
theorem na (h : ∀ t ∈ o.looksAt ops, T.getD t .undef = T'.getD t .undef) : gM ops o T = gM ops o T' := by
 unfold gM
 split
 ·rfl
 ·rename_i j want hg
  split
  ·rename_i g hj
   rw [h g (by simp [Oper.looksAt, hg, hj])]
  ·rfl
theorem HJ (h : Agr (o.looksAt ops) (fun n => n ∈ fd T o ∨ gu d o n = true) (T, H) (T', H')) (hs : yH cx d ops o T H v act) : yH cx d ops o T' H' v act := by
 obtain ⟨h1, h2, h3⟩ := h
 have hop : ∀ x ∈ o.op.operands.toList, dh T x = dh T' x := by
  intro x hx
  cases x with
  | tmp t => exact h2 t (aY _ (List.mem_filterMap.2 ⟨.tmp t, hx, rfl⟩))
  | _ => rfl
 obtain ⟨b, g1, g2⟩ := hs
 refine ⟨b, by rw [← na h2]; exact g1, g2.imp (fun g => ⟨g.1, ?_⟩) id⟩
 rcases g.2 with ⟨ac, k, kk⟩ | ⟨c, f, g, x, y, S, X, m, Y, k1, k2, k3, k4, k5, k6, k7, k8⟩ | ⟨c, f, g, x, y, k1, k2, k3, k4, k5⟩
 ·refine .inl ⟨ac, ?_, kk⟩
  rw [← Mw hop (fun n hn => h3 n (.inl hn)) (fun hb n n1 n2 => h3 n (.inr (by simp [gu, hb, n1, n2])))]
  exact k
 ·have hf : dh T f = dh T' f := hop f (by rw [k1]; simp [Op.operands, Call.operands, k2])
  have hA : c.args.toList.map (dh T) = c.args.toList.map (dh T') := bz fun x hx => hop x (by rw [k1]; simp [Op.operands, Call.operands, Array.mem_toList_iff.1 hx])
  exact .inr (.inl ⟨c, f, g, x, y, S, X, m, Y, k1, k2, hf ▸ k3, k4, k5, k6, hA ▸ k7, k8⟩)
 ·have hf : dh T f = dh T' f := hop f (by rw [k1]; simp [Op.operands, Call.operands, k2])
  have hA : c.args.toList.map (dh T) = c.args.toList.map (dh T') := bz fun x hx => hop x (by rw [k1]; simp [Op.operands, Call.operands, Array.mem_toList_iff.1 hx])
  exact .inr (.inr ⟨c, f, g, x, y, k1, k2, hf ▸ k3, hA ▸ k4, k5⟩)
theorem AG {H H' : Heap} {E : TypeId} {s : Sh} {d : DV} {xs : List s.T} {u : List Nat} (h : ja H E s d = some (xs, u)) (he : ∀ n ∈ u, H n = H' n) : ja H' E s d = some (xs, u) := by
 cases d
 case rw n =>
  simp only [ja] at h ⊢
  cases hb : H n with
  | none => rw [hb] at h; cases h
  | some b =>
   have hn : n ∈ u := by
    rw [hb] at h
    cases b <;> simp only at h <;> try cases h
    split at h
    ·split at h
     ·simp only [ab, ah] at h
      rw [← h.2]; simp
     ·cases h
    ·cases h
   rw [← he n hn]
   exact h
 case sl n o l =>
  simp only [ja] at h ⊢
  cases hb : H n with
  | none => rw [hb] at h; cases h
  | some b =>
   have hn : n ∈ u := by
    rw [hb] at h
    cases b <;> simp only at h <;> try cases h
    split at h
    ·split at h
     ·split at h
      ·simp only [ab, ah] at h
       rw [← h.2]; simp
      ·cases h
     ·cases h
    ·cases h
   rw [← he n hn]
   exact h
 case sc v =>
  cases v with
  | slice a n c =>
   cases a with
   | none => exact h
   | some a => simp only [ja] at h; cases h
  | _ => simp only [ja] at h; cases h
 all_goals (simp only [ja] at h; cases h)
theorem yJ : ∀ {l : List Nat} {T : List DV} {m m' : Met}, pZ l T m = some m' → m'.u = m.u ∧ ∀ e ∈ m.σ, e ∈ m'.σ
 | [], T, m, m', h => by
  simp only [pZ] at h
  split at h
  ·simp only [ab] at h; subst h; exact ⟨rfl, fun e he => he⟩
  ·cases h
 | i :: r, T, m, m', h => by
  simp only [pZ] at h
  split at h
  ·split at h
   ·split at h
    ·exact yJ h
    ·cases h
   ·obtain ⟨h1, h2⟩ := yJ h
    exact ⟨h1, fun e he => h2 e (az _ he)⟩
  ·cases h
def Met.le (m m' : Met) : Prop := (∀ n ∈ m.u, n ∈ m'.u) ∧ ∀ e ∈ m.σ, e ∈ m'.σ
theorem Met.le.refl (m : Met) : m.le m := ⟨fun _ h => h, fun _ h => h⟩
theorem Met.le.trans {a b c : Met} (h : a.le b) (k : b.le c) : a.le c := ⟨fun n hn => k.1 n (h.1 n hn), fun e he => k.2 e (h.2 e he)⟩
theorem kf {H : Heap} : ∀ {ks : List IK} {T : List DV} {m m' : Met} {x : eM ks}, dZ H ks T m = some (x, m') → m.le m'
 | [], T, m, m', x, h => by
  simp only [dZ] at h
  split at h
  ·simp only [ab, ah] at h; rw [h.2]; exact .refl _
  ·cases h
 | .any :: r, T, m, m', x, h => by
  simp only [dZ] at h
  split at h
  ·exact kf h
  ·cases h
 | .val s :: r, T, m, m', x, h => by
  simp only [dZ] at h
  split at h
  ·split at h
   ·split at h
    ·rename_i hz
     simp only [ab, ah] at h
     rw [← h.2]
     exact kf hz
    ·cases h
   ·cases h
  ·cases h
 | .agf s F :: r, T, m, m', x, h => by
  simp only [dZ] at h
  split at h
  ·split at h
   ·split at h
    ·split at h
     ·rename_i hz
      simp only [ab, ah] at h
      rw [← h.2]
      exact kf hz
     ·cases h
    ·cases h
   ·cases h
  ·cases h
 | .row E s :: r, T, m, m', x, h => by
  simp only [dZ] at h
  split at h
  ·split at h
   ·split at h
    ·rename_i hz
     simp only [ab, ah] at h
     rw [← h.2]
     exact Met.le.trans (b := ⟨m.σ, _ ++ m.u⟩) ⟨fun n hn => bG _ hn, fun e he => he⟩ (kf hz)
    ·cases h
   ·cases h
  ·cases h
 | .obj i :: r, T, m, m', x, h => by
  simp only [dZ] at h
  split at h
  ·split at h
   ·split at h
    ·exact kf h
    ·cases h
   ·exact Met.le.trans (b := ⟨_ :: m.σ, m.u⟩) ⟨fun n hn => hn, fun e he => az _ he⟩ (kf h)
  ·cases h
 | .inn i o :: r, T, m, m', x, h => by
  simp only [dZ] at h
  split at h
  ·split at h
   ·split at h
    ·split at h
     ·exact kf h
     ·cases h
    ·exact Met.le.trans (b := ⟨_ :: m.σ, m.u⟩) ⟨fun n hn => hn, fun e he => az _ he⟩ (kf h)
   ·cases h
  ·cases h
 | .clo F is :: r, T, m, m', x, h => by
  simp only [dZ] at h
  split at h
  ·split at h
   ·split at h
    ·rename_i hp
     obtain ⟨h1, h2⟩ := yJ hp
     exact Met.le.trans ⟨fun n hn => by rw [h1]; exact hn, h2⟩ (kf h)
    ·cases h
   ·cases h
  ·cases h
 | .tab ks vs :: r, T, m, m', x, h => by simp only [dZ] at h; cases h
 | .fam t k :: r, T, m, m', x, h => by simp only [dZ] at h; cases h
theorem kg {H : Heap} : ∀ {ks : List IK} {T : List DV} {m m' : Met} {x : eM ks}, fJ H ks T m = some (x, m') → m.le m'
 | [], T, m, m', x, h => by
  simp only [fJ] at h
  split at h
  ·simp only [ab, ah] at h; rw [h.2]; exact .refl _
  ·cases h
 | .any :: r, T, m, m', x, h => by
  simp only [fJ] at h
  split at h
  ·cases h
  ·exact kg h
  ·cases h
 | .val s :: r, T, m, m', x, h => by
  simp only [fJ] at h
  split at h
  ·split at h
   ·rename_i hz
    simp only [ab, ah] at h
    rw [← h.2]
    exact kg hz
   ·cases h
  ·cases h
 | .agf s F :: r, T, m, m', x, h => by
  simp only [fJ] at h
  split at h
  ·split at h
   ·split at h
    ·rename_i hz
     simp only [ab, ah] at h
     rw [← h.2]
     exact kg hz
    ·cases h
   ·cases h
  ·cases h
 | .row E s :: r, T, m, m', x, h => by
  simp only [fJ] at h
  split at h
  ·split at h
   ·split at h
    ·rename_i hz
     simp only [ab, ah] at h
     rw [← h.2]
     exact Met.le.trans (b := ⟨m.σ, _ ++ m.u⟩) ⟨fun n hn => bG _ hn, fun e he => he⟩ (kg hz)
    ·cases h
   ·cases h
  ·cases h
 | .obj i :: r, T, m, m', x, h => by
  simp only [fJ] at h
  split at h
  ·split at h
   ·split at h
    ·exact kg h
    ·cases h
   ·exact Met.le.trans (b := ⟨_ :: m.σ, m.u⟩) ⟨fun n hn => hn, fun e he => az _ he⟩ (kg h)
  ·cases h
 | .clo F is :: r, T, m, m', x, h => by
  simp only [fJ] at h
  split at h
  ·split at h
   ·split at h
    ·rename_i hp
     obtain ⟨h1, h2⟩ := yJ hp
     exact Met.le.trans ⟨fun n hn => by rw [h1]; exact hn, h2⟩ (kg h)
    ·cases h
   ·cases h
  ·cases h
 | .tab ks vs :: r, T, m, m', x, h => by simp only [fJ] at h; cases h
 | .fam t k :: r, T, m, m', x, h => by simp only [fJ] at h; cases h
 | .inn i o :: r, T, m, m', x, h => by simp only [fJ] at h; cases h
theorem Mx {H : Heap} {k : List IK} {i : Nat} {m m' : Met} {x : eM k} (h : tg H i k m = some (x, m')) : m.le m' := by
 unfold tg at h
 split at h
 ·split at h
  ·split at h
   ·simp only [ab, ah] at h
    rw [← h.2]
    exact .refl _
   ·cases h
  ·split at h
   ·simp only [ab, ah] at h
    rw [← h.2]
    exact ⟨fun _ h => h, fun _ h => az _ h⟩
   ·cases h
 ·split at h
  ·split at h
   ·exact kg h
   ·cases h
  ·cases h
theorem CN {H : Heap} : ∀ {os : List (List IK)} {i : Nat} {m m' : Met} {x : ol os}, om H i os m = some (x, m') → m.le m'
 | [], i, m, m', x, h => by
  simp only [om, ab, ah] at h; rw [h.2]; exact .refl _
 | k :: r, i, m, m', x, h => by
  simp only [om] at h
  split at h
  ·rename_i hc
   split at h
   ·rename_i hz
    simp only [ab, ah] at h
    rw [← h.2]
    exact (Mx hc).trans (CN hz)
   ·cases h
  ·cases h
theorem iW {H H' : Heap} : ∀ {ks : List IK} {T : List DV} {m m' : Met} {x : eM ks}, dZ H ks T m = some (x, m') → (∀ n ∈ m'.u, H n = H' n) → dZ H' ks T m = some (x, m')
 | [], T, m, m', x, h, he => h
 | .any :: r, T, m, m', x, h, he => by
  simp only [dZ] at h ⊢
  split at h
  ·exact iW h he
  ·cases h
 | .val s :: r, T, m, m', x, h, he => by
  simp only [dZ] at h ⊢
  split at h
  ·split at h
   ·rename_i hv
    split at h
    ·rename_i hz
     simp only [ab, ah] at h
     obtain ⟨h1, rfl⟩ := h
     simp only [hv, iW hz he, h1]
    ·cases h
   ·cases h
  ·cases h
 | .agf s F :: r, T, m, m', x, h, he => by
  simp only [dZ] at h ⊢
  split at h
  ·split at h
   ·rename_i hv
    split at h
    ·rename_i hF
     split at h
     ·rename_i hz
      simp only [ab, ah] at h
      obtain ⟨h1, rfl⟩ := h
      simp only [hv, hF, if_true, iW hz he, h1]
     ·cases h
    ·cases h
   ·cases h
  ·cases h
 | .row E s :: r, T, m, m', x, h, he => by
  simp only [dZ] at h ⊢
  split at h
  ·split at h
   ·rename_i hv
    split at h
    ·rename_i hz
     simp only [ab, ah] at h
     obtain ⟨h1, rfl⟩ := h
     have hle := (kf hz).1
     simp only [AG hv fun n hn => he n (hle n (aY _ hn)), iW hz he, h1]
    ·cases h
   ·cases h
  ·cases h
 | .obj i :: r, T, m, m', x, h, he => by
  simp only [dZ] at h ⊢
  split at h
  ·split at h
   ·rename_i hg
    split at h
    ·rename_i hn
     simp only [hg, hn, if_true]
     exact iW h he
    ·cases h
   ·exact iW h he
  ·cases h
 | .inn i o :: r, T, m, m', x, h, he => by
  simp only [dZ] at h ⊢
  split at h
  ·split at h
   ·rename_i ho
    simp only [ho, if_true]
    split at h
    ·rename_i hg
     split at h
     ·rename_i hn
      simp only [hg, hn, if_true]
      exact iW h he
     ·cases h
    ·exact iW h he
   ·cases h
  ·cases h
 | .clo F is :: r, T, m, m', x, h, he => by
  simp only [dZ] at h ⊢
  split at h
  ·split at h
   ·rename_i hF
    split at h
    ·rename_i hp
     simp only [hF, if_true, hp]
     exact iW h he
    ·cases h
   ·cases h
  ·cases h
 | .tab ks vs :: r, T, m, m', x, h, he => by simp only [dZ] at h; cases h
 | .fam t k :: r, T, m, m', x, h, he => by simp only [dZ] at h; cases h
theorem kQ {H H' : Heap} : ∀ {ks : List IK} {T : List DV} {m m' : Met} {x : eM ks}, fJ H ks T m = some (x, m') → (∀ n ∈ m'.u, H n = H' n) → fJ H' ks T m = some (x, m')
 | [], T, m, m', x, h, he => h
 | .any :: r, T, m, m', x, h, he => by
  simp only [fJ] at h ⊢
  split at h
  ·cases h
  ·exact kQ h he
  ·cases h
 | .val s :: r, T, m, m', x, h, he => by
  simp only [fJ] at h ⊢
  split at h
  ·rename_i hv
   split at h
   ·rename_i hz
    simp only [ab, ah] at h
    obtain ⟨h1, rfl⟩ := h
    simp only [hv, kQ hz he, h1]
   ·cases h
  ·cases h
 | .agf s F :: r, T, m, m', x, h, he => by
  simp only [fJ] at h ⊢
  split at h
  ·rename_i hv
   split at h
   ·rename_i hF
    split at h
    ·rename_i hz
     simp only [ab, ah] at h
     obtain ⟨h1, rfl⟩ := h
     simp only [hv, hF, if_true, kQ hz he, h1]
    ·cases h
   ·cases h
  ·cases h
 | .row E s :: r, T, m, m', x, h, he => by
  simp only [fJ] at h ⊢
  split at h
  ·split at h
   ·rename_i hv
    split at h
    ·rename_i hz
     simp only [ab, ah] at h
     obtain ⟨h1, rfl⟩ := h
     have hle := (kg hz).1
     simp only [AG hv fun n hn => he n (hle n (aY _ hn)), kQ hz he, h1]
    ·cases h
   ·cases h
  ·cases h
 | .obj i :: r, T, m, m', x, h, he => by
  simp only [fJ] at h ⊢
  split at h
  ·split at h
   ·rename_i hg
    split at h
    ·rename_i hn
     simp only [hg, hn, if_true]
     exact kQ h he
    ·cases h
   ·exact kQ h he
  ·cases h
 | .clo F is :: r, T, m, m', x, h, he => by
  simp only [fJ] at h ⊢
  split at h
  ·split at h
   ·rename_i hF
    split at h
    ·rename_i hp
     simp only [hF, if_true, hp]
     exact kQ h he
    ·cases h
   ·cases h
  ·cases h
 | .tab ks vs :: r, T, m, m', x, h, he => by simp only [fJ] at h; cases h
 | .fam t k :: r, T, m, m', x, h, he => by simp only [fJ] at h; cases h
 | .inn i o :: r, T, m, m', x, h, he => by simp only [fJ] at h; cases h
theorem get_mem {m : Met} {i n : Nat} (h : m.get i = some n) : (i, n) ∈ m.σ := by
 unfold Met.get at h
 obtain ⟨e, h1, h2⟩ := Option.map_eq_some_iff.1 h
 have h3 := ci h1
 have h4 := cj h1
 simp only [ai] at h3
 obtain ⟨a, b⟩ := e
 simp only at h2 h3
 rw [← h2, ← h3]
 exact h4
theorem J6 {H H' : Heap} {k : List IK} {i : Nat} {m m' : Met} {x : eM k} (h : tg H i k m = some (x, m')) (he : ∀ n, n ∈ m'.u ∨ n ∈ m'.σ.map (·.2) → H n = H' n) : tg H' i k m = some (x, m') := by
 unfold tg at h ⊢
 split at h
 ·split at h
  ·rename_i n hg
   split at h
   ·rename_i xs hx
    simp only [ab, ah] at h
    obtain ⟨h1, rfl⟩ := h
    have hH : H n = H' n := he n (.inr (List.mem_map.2 ⟨_, get_mem hg, rfl⟩))
    simp only [hg, ← hH, hx, h1]
   ·cases h
  ·rename_i hg
   split at h
   ·rename_i xs hx
    simp only [ab, ah] at h
    obtain ⟨h1, rfl⟩ := h
    have hH : H i = H' i := he i (.inr (by simp))
    simp only [hg, ← hH, hx, h1]
   ·cases h
 ·split at h
  ·rename_i n hg
   split at h
   ·rename_i cs hn
    have l1 := kg h
    have hH : H n = H' n := he n (.inr (List.mem_map.2 ⟨_, l1.2 _ (get_mem hg), rfl⟩))
    simp only [hg, ← hH, hn]
    exact kQ h fun n hn => he n (.inl hn)
   ·cases h
  ·cases h
theorem Fe {H H' : Heap} : ∀ {os : List (List IK)} {i : Nat} {m m' : Met} {x : ol os}, om H i os m = some (x, m') → (∀ n, n ∈ m'.u ∨ n ∈ m'.σ.map (·.2) → H n = H' n) → om H' i os m = some (x, m')
 | [], i, m, m', x, h, he => h
 | k :: r, i, m, m', x, h, he => by
  simp only [om] at h ⊢
  split at h
  ·rename_i hc
   split at h
   ·rename_i hz
    simp only [ab, ah] at h
    obtain ⟨h1, rfl⟩ := h
    have l2 := CN hz
    simp only [J6 hc fun n hn => he n (hn.imp (l2.1 n) fun h => by
     obtain ⟨e, h1, h2⟩ := List.mem_map.1 h
     exact List.mem_map.2 ⟨e, l2.2 _ h1, h2⟩), Fe hz he, h1]
   ·cases h
  ·cases h
theorem CO {t : Tmpl} {A : List DV} {H H' : Heap} {m0 m : Met} {X : t.Ty} (h : t.pr m0 A H = some (X, m)) (he : ∀ n, n ∈ m.u ∨ n ∈ m.σ.map (·.2) → H n = H' n) : t.pr m0 A H' = some (X, m) := by
 unfold Tmpl.pr at h ⊢
 split at h
 ·rename_i h1
  split at h
  ·rename_i h2
   split at h
   ·rename_i h3
    simp only [ab, ah] at h
    obtain ⟨h4, rfl⟩ := h
    simp only [iW h1 fun n hn => he n (.inl ((CN h2).1 n hn)), Fe h2 he, h3, if_true, h4]
   ·cases h
  ·cases h
 ·cases h
theorem HK {t : Tmpl} {A : List DV} {H : Heap} {m0 m : Met} {X : t.Ty} (h : t.pr m0 A H = some (X, m)) : jn (m.σ.map (·.1)) = true := by
 unfold Tmpl.pr at h
 split at h
 ·split at h
  ·split at h
   ·rename_i h3
    simp only [ab, ah] at h
    simp only [aj] at h3
    rw [← h.2]
    exact h3.1.2
   ·cases h
  ·cases h
 ·cases h
theorem J7 {H H' : Heap} {m : Met} {n : Nat} (h : H n = H' n) : ((dv m.u H).away m) n = ((dv m.u H').away m) n := by
 unfold Heap.away
 split
 ·rfl
 ·rw [ju, ju, h]
theorem J8 {t : Tmpl} {ρ : Nam} {H H' : Heap} (h : t.free ρ H = true) (he : ∀ n ∈ t.names ρ, H n = H' n) : t.free ρ H' = true := by
 unfold Tmpl.free at h ⊢
 simp only [aj, aN] at h ⊢
 exact ⟨h.1, fun n hn => by rw [← he n hn]; exact h.2 n hn⟩
theorem HL (h : Agr (o.looksAt ops) (fun n => n ∈ act.W) (T, H) (T', H')) (hs : rn cx ops o T H v act) : rn cx ops o T' H' v act := by
 obtain ⟨h1, h2, h3⟩ := h
 have hop : ∀ x ∈ o.op.operands.toList, dh T x = dh T' x := by
  intro x hx
  cases x with
  | tmp t => exact h2 t (aY _ (List.mem_filterMap.2 ⟨.tmp t, hx, rfl⟩))
  | _ => rfl
 obtain ⟨g1, c, f, g, x, y, S, X, m, Y, b, k1, k2, k3, k4, k5, k6, k7, k8, k9, k10⟩ := hs
 have hf : dh T f = dh T' f := hop f (by rw [k1]; simp [Op.operands, Call.operands, k2])
 have hA : c.args.toList.map (dh T) = c.args.toList.map (dh T') := bz fun x hx => hop x (by rw [k1]; simp [Op.operands, Call.operands, Array.mem_toList_iff.1 hx])
 have hW : ∀ n, n ∈ m.σ.map (·.2) ∨ n ∈ m.u ∨ n ∈ S.tout.names (kA b m) → H n = H' n := fun n hn => h3 n (by
  show n ∈ act.W
  rw [k10]
  simp only [aA]
  rcases hn with hn | hn | hn
  ·exact .inl (.inl hn)
  ·exact .inl (.inr hn)
  ·exact .inr hn)
 refine ⟨by rw [← na h2]; exact g1, c, f, g, x, y, S, X, m, Y, b, k1, k2, hf ▸ k3, k4, k5, ?_, k7, ?_, k9, k10⟩
 ·rw [← hA]
  exact CO k6 fun n hn => hW n (hn.elim (fun h => .inr (.inl h)) .inl)
 ·exact J8 k8 fun n hn => J7 (hW n (.inr (.inr hn)))
theorem HM {rd : List Nat} (h : Agr (o.looksAt ops) (fun n => n ∈ rd) (T, H) (T', H')) (hs : vI cx ops o T H v act rd) : vI cx ops o T' H' v act rd := by
 obtain ⟨h1, h2, h3⟩ := h
 have hop : ∀ x ∈ o.op.operands.toList, dh T x = dh T' x := by
  intro x hx
  cases x with
  | tmp t => exact h2 t (aY _ (List.mem_filterMap.2 ⟨.tmp t, hx, rfl⟩))
  | _ => rfl
 obtain ⟨g1, c, f, g, x, y, S, X, m, Y, k1, k2, k3, k4, k5, k6, k7, k8, k9, k10⟩ := hs
 have hf : dh T f = dh T' f := hop f (by rw [k1]; simp [Op.operands, Call.operands, k2])
 have hA : c.args.toList.map (dh T) = c.args.toList.map (dh T') := bz fun x hx => hop x (by rw [k1]; simp [Op.operands, Call.operands, Array.mem_toList_iff.1 hx])
 have hW : ∀ n, n ∈ m.σ.map (·.2) ∨ n ∈ m.u → H n = H' n := fun n hn => h3 n (by
  show n ∈ rd
  rw [k10]
  simp only [aA]
  exact hn)
 refine ⟨by rw [← na h2]; exact g1, c, f, g, x, y, S, X, m, Y, k1, k2, hf ▸ k3, k4, k5, ?_, k7, k8, k9, k10⟩
 rw [← hA]
 exact CO k6 fun n hn => hW n (hn.elim .inr .inl)
theorem Gn {rd : List Nat} (h : Agr (o.looksAt ops) (fun n => n ∈ rd) (T, H) (T', H')) (hs : qc cx d ops o T H v act rd) : qc cx d ops o T' H' v act rd := by
 obtain ⟨h1, h2, h3⟩ := h
 have hop : ∀ x ∈ o.op.operands.toList, dh T x = dh T' x := by
  intro x hx
  cases x with
  | tmp t => exact h2 t (aY _ (List.mem_filterMap.2 ⟨.tmp t, hx, rfl⟩))
  | _ => rfl
 obtain ⟨g1, c, f, g, x, y, S, X, m, Y, k1, k2, k3, k4, k5, k6, k7, k8, k9, k10, k11⟩ := hs
 have hf : dh T f = dh T' f := hop f (by rw [k1]; simp [Op.operands, Call.operands, k2])
 have hA : c.args.toList.map (dh T) = c.args.toList.map (dh T') := bz fun x hx => hop x (by rw [k1]; simp [Op.operands, Call.operands, Array.mem_toList_iff.1 hx])
 have hW : ∀ n, (n ∈ m.σ.map (·.2) ∨ n ∈ m.u) ∨ n = base d o.dst → H n = H' n := fun n hn => h3 n (by
  show n ∈ rd
  rw [k11]
  simp only [aA, ao]
  exact hn)
 refine ⟨by rw [← na h2]; exact g1, c, f, g, x, y, S, X, m, Y, k1, k2, hf ▸ k3, k4, k5, ?_, k7, ?_, k9, k10, k11⟩
 ·rw [← hA]
  exact CO k6 fun n hn => hW n (.inl (hn.elim .inr .inl))
 ·rw [← hW _ (.inr rfl)]; exact k8
theorem Gp {s : Sh} {y : DV} {ys : List s.T} (h : ez H s y = some ys) (he : ∀ n ∈ gI y, H n = H' n) : ez H' s y = some ys := by
 cases y
 case rw n =>
  have := he n (by simp [gI])
  simp only [ez] at h ⊢
  rw [← this]; exact h
 case sl n o l =>
  have := he n (by simp [gI])
  simp only [ez] at h ⊢
  rw [← this]; exact h
 case ps n o p m l =>
  have := he n (by simp [gI])
  simp only [ez] at h ⊢
  rw [← this]; exact h
 case sc v =>
  cases v with
  | slice a n c =>
   cases a with
   | none => exact h
   | some a => simp only [ez] at h; cases h
  | _ => simp only [ez] at h; cases h
 case vs s' xs => exact h
 all_goals (simp only [ez] at h; cases h)
theorem wz {P : Program} {E : TypeId} {s : Sh} {x : DV} {ys : List s.T} {k : DV → Act2 → Option α} : d7 P d o E s x ys H k = (d7 P d o E s x ys H fun v a => some (v, a)).bind fun e => k e.1 e.2 := by
 unfold d7
 repeat' split
 all_goals rfl
theorem EJ {P : Program} {E : TypeId} {s : Sh} {x : DV} {ys : List s.T} {p : DV × Act2} (h : d7 P d o E s x ys H (fun v a => some (v, a)) = some p) (he : ∀ n, n ∈ gI x ∨ n ∈ p.2.W → H n = H' n) : d7 P d o E s x ys H' (fun v a => some (v, a)) = some p := by
 cases x
 case rw n =>
  have := he n (.inl (by simp [gI]))
  simp only [d7] at h ⊢
  rw [← this]; exact h
 case sl n o l =>
  have := he n (.inl (by simp [gI]))
  simp only [d7] at h ⊢
  rw [← this]; exact h
 case sc v =>
  cases v with
  | slice a n c =>
   cases a with
   | none =>
    simp only [d7] at h ⊢
    split at h
    ·rename_i h1
     rw [if_pos h1]
     split at h
     ·rename_i h2
      simp only [ab] at h
      have := he (base d o.dst) (.inr (by rw [← h]; simp))
      rw [← this, h2]
      simp only [h]
     ·cases h
    ·cases h
   | some a => simp only [d7] at h; cases h
  | _ => simp only [d7] at h; cases h
 all_goals (simp only [d7] at h; cases h)
theorem HN (h : Agr (o.looksAt ops) (fun n => n ∈ fd T o ++ act.W) (T, H) (T', H')) (hs : yI cx d ops o T H v act) : yI cx d ops o T' H' v act := by
 obtain ⟨h1, h2, h3⟩ := h
 have hop : ∀ x ∈ o.op.operands.toList, dh T x = dh T' x := by
  intro x hx
  cases x with
  | tmp t => exact h2 t (aY _ (List.mem_filterMap.2 ⟨.tmp t, hx, rfl⟩))
  | _ => rfl
 obtain ⟨g1, c, x, y, t, e, s, ys, k1, k2, k3, k4, k5, k6, k7, k8, k9⟩ := hs
 have hxm : x ∈ o.op.operands.toList := by rw [k1]; simp [Op.operands, Call.operands, k2, k3]
 have hym : y ∈ o.op.operands.toList := by rw [k1]; simp [Op.operands, Call.operands, k2, k3]
 have hr : ∀ z ∈ o.op.operands.toList, ∀ n ∈ gI (dh T z), H n = H' n := fun z hz n hn => h3 n (by
  refine aY _ ?_
  unfold fd
  have hl : tm o = true := by unfold tm; rw [k1]
  rw [if_pos hl]
  exact List.mem_flatMap.2 ⟨z, hz, hn⟩)
 refine ⟨by rw [← na h2]; exact g1, c, x, y, t, e, s, ys, k1, k2, k3, k4, k5, k6, k7, ?_, ?_⟩
 ·rw [← hop y hym]
  exact Gp k8 (hr y hym)
 ·rw [← hop x hxm]
  exact EJ k9 fun n hn => hn.elim (hr x hxm n) (fun hn => h3 n (bG _ hn))
theorem pN {x y : Did} (h : iM d ops x y = true) : (∀ n ∈ x.w, n ∉ y.r ∧ n ∉ y.w ∧ gu d y.o n = false) ∧ (∀ n ∈ y.w, n ∉ x.r ∧ gu d x.o n = false) ∧ x.o.apart ops y.o = true ∧ (x.u ≠ [] → fi x.u y.h = true ∧ l9 x.u x.H d y.o = true ∧ (∀ n ∈ y.r, fi x.u (mK (x.H n)) = true) ∧ ∀ t ∈ y.o.looksAt ops, fi x.u (x.T.getD t .undef).rows = true) ∧ (y.u ≠ [] → fi y.u x.h = true ∧ l9 y.u x.H d x.o = true) := by
 unfold iM Gc Gb at h
 simp only [aj, aN, aE, bJ, ck, decide_eq_false_iff_not, List.isEmpty_iff] at h
 obtain ⟨⟨h1, h2, h3, h4⟩, h5⟩ := h
 refine ⟨fun n hn => ?_, fun n hn => ?_, h5, fun hc => ?_, fun hc => ?_⟩
 ·obtain ⟨a, b, c⟩ := h1 n hn
  exact ⟨a, b, c⟩
 ·exact h2 n hn
 ·rcases h3 with h3 | h3
  ·exact absurd h3 hc
  ·exact ⟨h3.1, h3.2.1, h3.2.2.1, h3.2.2.2⟩
 ·rcases h4 with h4 | h4
  ·exact absurd h4 hc
  ·exact h4
theorem wA {u : List Nat} {H : Heap} {o : Oper} {n : Nat} (h : l9 u H d o = true) (hn : gu d o n = true) : fi u (mK (H n)) = true := by
 unfold gu at hn
 simp only [aj, av] at hn
 unfold l9 at h
 rw [hn.1.1] at h
 simp only [cz, bX, aN, bh] at h
 have := h (n - base d o.dst) (by omega)
 rw [show base d o.dst + (n - base d o.dst) = n by omega] at this
 exact this
structure Rec.Fit (ops : Array Oper) (e : Rec) (s : St) : Prop where
 T : e.T = s.1
 H : e.H = s.2
 h : e.h = Cg ops s.1 s.2 e.o e.v e.r e.act
 u : ∀ n ∈ e.act.u, n ∈ e.act.W
variable {s s' : St}
theorem Rec.Fit.rows {e : Rec} (he : e.Fit ops s) {u : List Nat} (h : fi u e.h = true) : fi u e.v.rows = true ∧ (∀ t ∈ e.o.looksAt ops, fi u (s.1.getD t .undef).rows = true) ∧ (∀ n ∈ e.r, fi u (mK (s.2 n)) = true) ∧ ∀ n ∈ e.act.W, fi u (mK (e.act.B n)) = true := by
 rw [he.h, disjB_iff] at h
 unfold Cg at h
 simp only [aA, not_or, List.mem_flatMap, not_exists, not_and] at h
 exact ⟨disjB_iff.2 fun n hn => (h n hn).1, fun t ht => disjB_iff.2 fun n hn => (h n hn).2.1 t ht, fun q hq => disjB_iff.2 fun n hn => (h n hn).2.2.1 q hq, fun q hq => disjB_iff.2 fun n hn => (h n hn).2.2.2 q hq⟩
theorem J9 {e f : Rec} (he : e.Fit ops s) (h : iM d ops e.did f.did = true) : yF e (f.o.looksAt ops) (fun n => n ∈ f.r ∨ gu d f.o n = true) s := by
 obtain ⟨h1, h2, h3, h4, h5⟩ := pN h
 obtain ⟨g1, g2, g3⟩ := Oper.apart_spec h3
 refine ⟨fun t ht => g1 t ht, fun n hn => ?_, fun n hn => ?_, fun t ht => ?_⟩
 ·obtain ⟨k1, k2, k3⟩ := h1 n hn
  rintro (k | k)
  ·exact k1 k
  ·have k3' : gu d f.o n = false := k3
   rw [k3'] at k; cases k
 ·by_cases hu : e.act.u = []
  ·rw [hu]; rfl
  ·obtain ⟨q1, q2, q3, q4⟩ := h4 hu
   rcases hn with hnr | k
   ·refine gv (fun hu => ?_) (by rw [← he.H]; exact q3 n hnr)
    exact (h1 n (he.u n hu)).1 hnr
   ·refine gv (fun hu => ?_) (by rw [← he.H]; exact wA q2 k)
    have k3 : gu d f.o n = false := (h1 n (he.u n hu)).2.2
    rw [k3] at k; cases k
 ·by_cases hu : e.act.u = []
  ·rw [hu]; rfl
  ·obtain ⟨q1, q2, q3, q4⟩ := h4 hu
   rw [← he.T]
   exact mO (q4 t ht)
theorem HO {e f : Rec} (he : e.Fit ops s) (hf : f.Fit ops s') (h : iM d ops e.did f.did = true) : yF f (e.o.looksAt ops) (fun n => n ∈ e.r ∨ gu d e.o n = true) s := by
 obtain ⟨h1, h2, h3, h4, h5⟩ := pN h
 obtain ⟨g1, g2, g3⟩ := Oper.apart_spec h3
 refine ⟨fun t ht => g3 t ht, fun n hn => ?_, fun n hn => ?_, fun t ht => ?_⟩
 ·obtain ⟨k1, k2⟩ := h2 n hn
  rintro (k | k)
  ·exact k1 k
  ·have k2' : gu d e.o n = false := k2
   rw [k2'] at k; cases k
 ·by_cases hu : f.act.u = []
  ·rw [hu]; rfl
  ·obtain ⟨q1, q2⟩ := h5 hu
   rcases hn with hnr | k
   ·refine gv (fun hu => ?_) ((he.rows q1).2.2.1 n hnr)
    exact (h2 n (hf.u n hu)).1 hnr
   ·refine gv (fun hu => ?_) (by rw [← he.H]; exact wA q2 k)
    have k2 : gu d e.o n = false := (h2 n (hf.u n hu)).2
    rw [k2] at k; cases k
 ·by_cases hu : f.act.u = []
  ·rw [hu]; rfl
  ·obtain ⟨q1, q2⟩ := h5 hu
   exact mO ((he.rows q1).2.1 t ht)
theorem Np {e f : Rec} (he : e.Fit ops s) (hf : f.Fit ops s') (h : iM d ops e.did f.did = true) : Com e f := by
 obtain ⟨h1, h2, h3, h4, h5⟩ := pN h
 obtain ⟨g1, g2, g3⟩ := Oper.apart_spec h3
 have nil : ∀ h, fi [] h = true := fun h => rfl
 refine ⟨fun t ht => g2 t ht, fun n hn => (h1 n hn).2.1, fun n hn => ?_, fun n hn => ?_, ?_, ?_⟩
 ·by_cases hu : f.act.u = []
  ·rw [hu]; rfl
  ·refine gv (fun hu => ?_) ((he.rows (h5 hu).1).2.2.2 n hn)
   exact (h1 n hn).2.1 (hf.u n hu)
 ·by_cases hu : e.act.u = []
  ·rw [hu]; rfl
  ·refine gv (fun hu => ?_) ((hf.rows (h4 hu).1).2.2.2 n hn)
   exact (h1 n (he.u n hu)).2.1 hn
 ·by_cases hu : e.act.u = []
  ·rw [hu]; rfl
  ·exact (hf.rows (h4 hu).1).1
 ·by_cases hu : f.act.u = []
  ·rw [hu]; rfl
  ·exact (he.rows (h5 hu).1).1
end
def iu (P : Program) (f : FuncId) (S : FS) : Prop := ∀ {α : Type} {I : In} {w : World} {H : Heap} {A : List DV} {args : List Value} {ρ : Nam} {k : DV → Heap → Option (List Nat) → Option α} {r : α} {x : S.tin.Ty} {m : Met}, HR I w H → LR I w A args → S.tin.pr ⟨[], []⟩ A H = some (x, m) → (∀ i n, (i, n) ∈ m.σ → ρ.o i = n) →
 ((S.fn x).bind fun y => if S.tout.free ρ ((dv m.u H).away m) = true then k (gV (S.tout.T ρ (S.out y))) (S.tout.H ρ (S.out y) ((dv m.u H).away m)) (some m.u) else none) = some r →
 Calls P f args.toArray w (xd fun z w' => ∃ I' v H' u, k v H' u = some r ∧ Ext I w I' w' ∧ HR I' w' H' ∧ VR I' w' v z ∧ Gi u I I')
theorem eE {ρ : Nam} : ∀ {ks : List IK} {c : Nat} {x : eM ks} {H : Heap} {n : Nat}, n ∉ de ρ c ks → el ρ c ks x H n = H n
 | [], c, x, H, n, h => rfl
 | .any :: r, c, x, H, n, h => eE (ks := r) h
 | .val s :: r, c, x, H, n, h => eE (ks := r) h
 | .agf s F :: r, c, x, H, n, h => eE (ks := r) h
 | .obj i :: r, c, x, H, n, h => eE (ks := r) h
 | .inn i o :: r, c, x, H, n, h => eE (ks := r) h
 | .clo F is :: r, c, x, H, n, h => eE (ks := r) h
 | .tab ks vs :: r, c, x, H, n, h => eE (ks := r) h
 | .fam t k :: r, c, x, H, n, h => eE (ks := r) h
 | .row E s :: r, c, x, H, n, h => by
  simp only [de, aB, not_or] at h
  show el ρ (c + 1) r x.2 (H.set (ρ.r c) (some (.row E s x.1))) n = H n
  rw [eE (ks := r) h.2]
  simp only [Heap.set, h.1, aC]
theorem fR {ρ : Nam} : ∀ {ks : List IK} {c : Nat} {x : eM ks} {H H' : Heap} {n : Nat}, n ∈ de ρ c ks ∨ H n = H' n → el ρ c ks x H n = el ρ c ks x H' n
 | [], c, x, H, H', n, h => h.elim (fun h => by cases h) id
 | .any :: r, c, x, H, H', n, h => fR (ks := r) h
 | .val s :: r, c, x, H, H', n, h => fR (ks := r) h
 | .agf s F :: r, c, x, H, H', n, h => fR (ks := r) h
 | .obj i :: r, c, x, H, H', n, h => fR (ks := r) h
 | .inn i o :: r, c, x, H, H', n, h => fR (ks := r) h
 | .clo F is :: r, c, x, H, H', n, h => fR (ks := r) h
 | .tab ks vs :: r, c, x, H, H', n, h => fR (ks := r) h
 | .fam t k :: r, c, x, H, H', n, h => fR (ks := r) h
 | .row E s :: r, c, x, H, H', n, h => by
  refine fR (ks := r) ?_
  simp only [de, aB] at h
  simp only [Heap.set]
  rcases h with (h | h) | h
  ·right; simp [h]
  ·exact .inl h
  ·right
   split
   ·rfl
   ·exact h
theorem Ff {ρ : Nam} : ∀ {os : List (List IK)} {i : Nat} {x : ol os} {H : Heap} {n : Nat}, n ∉ gb ρ i os → sG ρ i os x H n = H n
 | [], i, x, H, n, h => rfl
 | k :: r, i, x, H, n, h => by
  simp only [gb, aB, aA, not_or] at h
  show sG ρ (i + 1) r x.2 (el ρ (1000 * (i + 1)) k x.1 (H.set (ρ.o i) (some (qT ρ (1000 * (i + 1)) k x.1)))) n = H n
  rw [Ff (os := r) h.2.2, eE h.2.1]
  simp only [Heap.set, h.1, aC]
theorem HP {ρ : Nam} : ∀ {os : List (List IK)} {i : Nat} {x : ol os} {H H' : Heap} {n : Nat}, n ∈ gb ρ i os ∨ H n = H' n → sG ρ i os x H n = sG ρ i os x H' n
 | [], i, x, H, H', n, h => h.elim (fun h => by cases h) id
 | k :: r, i, x, H, H', n, h => by
  refine HP (os := r) ?_
  simp only [gb, aB, aA] at h
  have hset : n = ρ.o i ∨ H n = H' n → (H.set (ρ.o i) (some (qT ρ (1000 * (i + 1)) k x.1))) n = (H'.set (ρ.o i) (some (qT ρ (1000 * (i + 1)) k x.1))) n := fun h => by
   simp only [Heap.set]
   rcases h with h | h
   ·simp [h]
   ·split
    ·rfl
    ·exact h
  rcases h with (h | h | h) | h
  ·exact .inr (fR (.inr (hset (.inl h))))
  ·exact .inr (fR (.inl h))
  ·exact .inl h
  ·exact .inr (fR (.inr (hset (.inr h))))
theorem rq {t : Tmpl} {ρ : Nam} {x : t.Ty} {H : Heap} {n : Nat} (h : n ∉ t.names ρ) : t.H ρ x H n = H n := by
 simp only [Tmpl.names, aA, not_or] at h
 unfold Tmpl.H
 rw [eE h.1, Ff h.2]
theorem HQ {t : Tmpl} {ρ : Nam} {x : t.Ty} {H H' : Heap} {n : Nat} (h : n ∈ t.names ρ) : t.H ρ x H n = t.H ρ x H' n := by
 simp only [Tmpl.names, aA] at h
 unfold Tmpl.H
 rcases h with h | h
 ·exact fR (.inl h)
 ·exact fR (.inr (HP (.inl h)))
theorem Nq {t : Tmpl} {ρ : Nam} {z : t.Ty} {m : Met} {H : Heap} : t.H ρ z ((dv m.u H).away m) = H.act2 ⟨m.u, m.σ.map (·.2) ++ m.u ++ t.names ρ, t.H ρ z fun _ => none⟩ := by
 funext n
 show _ = if (m.σ.map (·.2) ++ m.u ++ t.names ρ).contains n = true then t.H ρ z (fun _ => none) n else dv m.u H n
 by_cases hn : n ∈ t.names ρ
 ·have c : (m.σ.map (·.2) ++ m.u ++ t.names ρ).contains n = true := by simp [hn]
  rw [if_pos c]
  exact HQ hn
 ·have hB : t.H ρ z (fun _ => none) n = none := rq hn
  rw [rq hn, hB]
  unfold Heap.away
  by_cases hs : n ∈ m.σ.map (·.2)
  ·have c : (m.σ.map (·.2) ++ m.u ++ t.names ρ).contains n = true := by
    simp only [ck, aA, hs, true_or, decide_true]
   have c2 : (m.σ.any fun e => e.2 == n) = true := by
    obtain ⟨e, e1, e2⟩ := List.mem_map.1 hs
    exact List.any_eq_true.2 ⟨e, e1, by simpa using e2⟩
   rw [if_pos c, if_pos c2]
  ·have c2 : ¬ (m.σ.any fun e => e.2 == n) = true := fun h => by
    obtain ⟨e, e1, e2⟩ := List.any_eq_true.1 h
    exact hs (List.mem_map.2 ⟨e, e1, by simpa using e2⟩)
   rw [if_neg c2]
   by_cases hu : n ∈ m.u
   ·have c : (m.σ.map (·.2) ++ m.u ++ t.names ρ).contains n = true := by
     simp only [ck, aA, hu, or_true, true_or, decide_true]
    rw [if_pos c, ju]
    have : ∀ (u : List Nat) (b : Option Blk), n ∈ u → eQ u n b = none := by
     intro u
     induction u with
     | nil => intro b h; cases h
     | cons k u ih =>
      intro b h
      rw [wv]
      by_cases e : n = k
      ·rw [if_pos e]; exact pK u n
      ·rw [if_neg e]
       rcases aB.1 h with h | h
       ·exact absurd h e
       ·exact ih _ h
    exact this m.u _ hu
   ·have c : ¬ (m.σ.map (·.2) ++ m.u ++ t.names ρ).contains n = true := by
     simp only [ck, aA, hs, hu, hn, or_self, decide_false]
     decide
    rw [if_neg c]
structure GrowW (w w' : World) : Prop where
 size : w.heap.size ≤ w'.heap.size
 same : ∀ b, b < w.heap.size → w'.heap[b]? = w.heap[b]?
 os : w'.os = w.os
 tape : w'.tape = w.tape
 output : w'.output = w.output
def In.grow (I : In) (w w' : World) : In := ⟨I.ι, ⟨fun b => I.R b ∨ (w.heap.size ≤ b ∧ b < w'.heap.size), I.R.fam⟩⟩
theorem GrowW.refl (w : World) : GrowW w w := ⟨ak _, fun _ _ => rfl, rfl, rfl, rfl⟩
theorem GrowW.trans {w w1 w2 : World} (h : GrowW w w1) (k : GrowW w1 w2) : GrowW w w2 :=
 ⟨aT h.size k.size, fun b hb => (k.same b (bb hb h.size)).trans (h.same b hb), k.os.trans h.os, k.tape.trans h.tape, k.output.trans h.output⟩
theorem GrowW.hr {I : In} {w w' : World} {H : Heap} (g : GrowW w w') (hH : HR I w H) : HR (I.grow w w') w' H ∧ Same I (I.grow w w') w w' := HR.grow hH rfl rfl (fun b => Iff.rfl) g.same g.size
theorem GrowW.ext {w w' : World} (g : GrowW w w') (I : In) : Ext I w (I.grow w w') w' :=
 ⟨fun _ _ h => h, fun _ h => .inl h, fun b hb _ => g.same b hb, fun n e b h hb => .inl ⟨n, e, h, hb⟩, fun b h => h.elim .inl fun h => .inr (.inr h.1), g.size, g.os, g.tape, g.output, fun _ _ _ h => h, fun _ h => ⟨rfl, h⟩⟩
def tF (P : Program) (f : FuncId) (S : FS) : Prop := ∀ {I : In} {w : World} {H : Heap} {A : List DV} {args : List Value} {X : S.tin.Ty} {m : Met} {Y : S.R}, HR I w H → LR I w A args → S.tin.pr ⟨[], []⟩ A (fun _ => none) = some (X, m) → S.fn X = some Y →
 Calls P f args.toArray w (xd fun z w' => GrowW w w' ∧ VR (I.grow w w') w' (gV (S.tout.T nam0 (S.out Y))) z)
def vJ (P : Program) (f : FuncId) (S : FS) : Prop := ∀ {I : In} {w : World} {H : Heap} {A : List DV} {args : List Value} {X : S.tin.Ty} {m : Met} {Y : S.R}, HR I w H → LR I w A args → S.tin.pr ⟨[], []⟩ A H = some (X, m) → S.fn X = some Y →
 Calls P f args.toArray w (xd fun z w' => GrowW w w' ∧ VR (I.grow w w') w' (gV (S.tout.T nam0 (S.out Y))) z)
def tG (P : Program) (f : FuncId) (S : QR) : Prop := ∀ {I : In} {w : World} {H : Heap} {A : List DV} {args : List Value} {X : S.tin.Ty} {m : Met} {Y : List S.s.T}, HR I w H → LR I w A args → S.tin.pr ⟨[], []⟩ A H = some (X, m) → S.fn X = some Y →
 Calls P f args.toArray w (xd fun z w' => GrowW w w' ∧ (∃ A l c, z = .slice A l c) ∧ (∃ cs, w'.ownsRow 0 S.E S.s.sz z Y.length cs ∧ ∀ R, (Sh.arr Y.length S.s).K R w' Y cs) ∧ ∀ b, z.ownBlock = some b → w.heap.size ≤ b)
def mP (P : Program) (g : FuncId) (t : Nat × List (List Int) × List FuncId) : Prop := ∀ {I : In} {w : World} {H : Heap} {A : List DV} {args : List Value}, HR I w H → LR I w A args → A.length = t.1 → A.all yn = true →
 Calls P g args.toArray w (xd fun z w' => ∃ I', Ext I w I' w' ∧ Rows I I' ∧ HR I' w' H ∧ VR I' w' (.tab t.2.1 (t.2.2.map fun F => .fn (.func F) A [])) z)
theorem wB {cx : Cx} {g : FuncId} {A : List DV} {v : DV} (h : oq cx g A = some v) : fY cx.P g = true ∧ ∃ t, cx.tabs g = some t ∧ A.length = t.1 ∧ A.all yn = true ∧ v = .tab t.2.1 (t.2.2.map fun F => .fn (.func F) A []) := by
 unfold oq at h
 split at h
 ·rename_i he
  split at h
  ·rename_i n ks Fs ht
   split at h
   ·rename_i hn
    split at h
    ·rename_i hp
     simp only [ab] at h
     exact ⟨he, _, ht, hn, hp, h.symm⟩
    ·cases h
   ·cases h
  ·cases h
 ·cases h
theorem tH : ∀ {l : List Nat}, jn l = true → l.Nodup
 | [], h => List.nodup_nil
 | a :: r, h => by
  simp only [jn, aj, bJ, ck, decide_eq_false_iff_not] at h
  exact bp.2 ⟨h.1, tH h.2⟩
theorem yK {m : Met} {i n : Nat} (hk : (m.σ.map (·.1)).Nodup) (h : (i, n) ∈ m.σ) : m.get i = some n := by
 unfold Met.get
 generalize m.σ = l at hk h
 induction l with
 | nil => cases h
 | cons e r ih =>
  simp only [List.map_cons, bp] at hk
  simp only [List.find?_cons]
  rcases aB.1 h with h1 | h1
  ·subst h1; simp
  ·have : (e.1 == i) = false := by
    rw [aX]
    intro e1
    exact hk.1 (List.mem_map.2 ⟨(i, n), h1, e1.symm⟩)
   rw [this]
   exact ih hk.2 h1
section
variable {α : Type} {cx : Cx} {d : Nat} {ops : Array Oper} {o : Oper} {I : In} {w : World} {T T' : List DV} {H H' : Heap} {a : Act} {v : DV} {act : Act2}
theorem mg {b : Bool} (hT : TR I w T a) (h : gM ops o T = some b) : Region.wanted o (yielded ops a.tmps) = b := by
 unfold gM at h
 unfold Region.wanted
 split at h
 ·rename_i hg
  rw [hg]
  simpa using h
 ·rename_i j want hg
  rw [hg]
  split at h
  ·rename_i g hj
   split at h
   ·rename_i b' hb
    have := wt hT hj hb
    simp only [this]
    simp only [ab] at h
    rw [← h]
    cases b' <;> cases want <;> rfl
   ·rename_i hb
    have := wu hT hj hb
    simp only [this]
    simp only [ab] at h
    rw [← h]
    rfl
   ·cases h
  ·cases h
theorem Ka (hp : ∀ g S, S ∈ cx.specs g → FS.pure S = true → tF cx.P g S) (ht : ∀ g t, cx.tabs g = some t → mP cx.P g t) (hT : TR I w T a) (hH : HR I w H) (h : yH cx d ops o T H v act) {K : Act → World → Prop} {Q : Exit → Act → World → Prop}
  (hk : ∀ I' w' u, Ext I w I' w' → HR I' w' (H.act2 act) → TR I' w' (dE (dJ act.u T) o.dst v) (a.put o.dst u) → K (a.put o.dst u) w') : if Region.wanted o (yielded ops a.tmps) then o.wp cx.P a w K Q ∨ (o.asks cx.P a w ∧ LetsOut Q) else K (a.put o.dst undef) w := by
 obtain ⟨b, h1, h2⟩ := h
 rw [mg hT h1]
 rcases h2 with ⟨rfl, h2⟩ | ⟨rfl, rfl, rfl⟩
 ·rw [if_pos rfl]
  refine .inl ?_
  rcases h2 with ⟨ac, h2, rfl⟩ | ⟨c, f, g, x, y, S, X, m, Y, k1, k2, k3, k4, k5, k6, k7, k8, rfl, rfl⟩ | ⟨c, f, g, x, y, k1, k2, k3, k4, rfl⟩
  ·obtain ⟨v', act', g1, g2⟩ := HF hT hH h2
   simp only [ab, ah] at g1
   obtain ⟨rfl, rfl⟩ := g1
   have hu : (Act2.of act').u = [] := by cases act' <;> rfl
   rw [vH, hu] at hk
   exact (g2.goes hT hH).wp hk
  ·obtain ⟨x', y', e1, e2⟩ := kO (c := c) hT k3
   unfold Oper.wp
   rw [kP k1 k2 e1 (kN k4), Oper.upon_enter]
   refine Calls.mono (hp g S k5 k6 hH e2 k7 k8) ?_
   rintro e w' he
   cases e with
   | returned z =>
    obtain ⟨m1, m4⟩ := he
    obtain ⟨m3, hs⟩ := m1.hr hH
    exact hk _ w' z (m1.ext I) m3 ((hT.keep hs).put _ m4)
   | _ => exact he.elim
  ·obtain ⟨x', y', e1, e2⟩ := kO (c := c) hT k3
   obtain ⟨he, t, ht', hl, hpt, rfl⟩ := wB k4
   unfold Oper.wp
   rw [kP k1 k2 e1 (kN he), Oper.upon_enter]
   refine Calls.mono (ht g t ht' hH e2 hl hpt) ?_
   rintro e w' he
   cases e with
   | returned z =>
    obtain ⟨I', m1, m2, m3, m4⟩ := he
    have hs : Same I I' w w' := ⟨m1.keeps hH, m1.obj, m2.row⟩
    exact hk I' w' z m1 m3 ((hT.keep hs).put _ m4)
   | _ => exact he.elim
 ·rw [if_neg (by simp)]
  exact hk I w undef (Ext.refl I w) hH (vG hT o.dst)
theorem GrowW.stay {I : In} {w w' : World} {H : Heap} (g : GrowW w w') (hH : HR I w H) : HR I w' H ∧ Same I I w w' := by
 have hs : Same I I w w' := ⟨⟨fun _ h => h, fun b hb => g.same b (hH.rlt b hb), fun _ _ _ h => h⟩, fun _ _ h => h, fun _ _ _ h => h⟩
 exact ⟨HR.of (fun n b hb => (hH.br hb).keep hs (fun _ _ h => ⟨h, rfl⟩) (fun e c h1 h2 => g.same c (hH.lt n e c h1 h2).1)) hH.dom (fun n e b h1 h2 => ⟨bb (hH.lt n e b h1 h2).1 g.size, (hH.lt n e b h1 h2).2⟩) hH.inj (fun b hb => bb (hH.rlt b hb) g.size) hH.one, hs⟩
theorem HR.putRow {I : In} {w : World} {H : Heap} {n : Nat} {z : Value} {E : TypeId} {s : Sh} {xs : List s.T} {cs : List Value} (hH : HR I w H) (hn : H n = none) (hown : w.ownsRow 0 E s.sz z xs.length cs) (hk : (Sh.arr xs.length s).K I.R w xs cs) (hfr : ∀ b, z.ownBlock = some b → b < w.heap.size ∧ ¬ I.R b ∧ ∀ m e, I.ι m = some e → ¬ e.has b) :
  HR (I.put n (.row s.sz z)) w (H.set n (some (.row E s xs))) ∧ Same I (I.put n (.row s.sz z)) w w := by
 have h0 := hH.dom n hn
 have hpf : ∀ {m : Nat} {t : TypeId} {B : Nat → Nat → Prop}, (I.put n (.row s.sz z)).ι m = some (.fam t B) ↔ I.ι m = some (.fam t B) := fun {m t B} => nP (fun t B h => by rw [h0] at h; cases h) (fun _ _ h => by cases h)
 have hs : Same I (I.put n (.row s.sz z)) w w := by
  refine ⟨⟨fun _ h => h, fun b hb => rfl, fun _ _ _ h => h⟩, fun m b h => ?_, fun m sz u h => ?_⟩
  ·rw [dk]
   ·exact h
   ·rintro rfl; rw [h0] at h; cases h
  ·rw [dk]
   ·exact h
   ·rintro rfl; rw [h0] at h; cases h
 have org : ∀ m e, (I.put n (.row s.sz z)).ι m = some e → (m = n ∧ e = .row s.sz z) ∨ (m ≠ n ∧ I.ι m = some e) := fun m e h => by
  by_cases hm : m = n
  ·subst hm
   rw [du] at h
   exact .inl ⟨rfl, (au h).symm⟩
  ·rw [dk hm] at h
   exact .inr ⟨hm, h⟩
 refine ⟨HR.of (fun m b h => ?_) (fun m h => ?_) (fun m e b h hb => ?_) (fun m m' e e' b h h' hb hb' => ?_) hH.rlt (fun m m' t B B' h1 h2 => hH.one m m' t B B' (hpf.1 h1) (hpf.1 h2)), hs⟩
 ·by_cases hm : m = n
  ·subst hm
   rw [Heap.set_same] at h
   simp only [ab] at h
   subst h
   exact ⟨z, cs, du, hown, hk⟩
  ·rw [dS hm] at h
   exact (hH.br h).keep hs (fun t B h => ⟨hpf.2 h, rfl⟩) (fun _ _ _ _ => rfl)
 ·by_cases hm : m = n
  ·subst hm; rw [Heap.set_same] at h; cases h
  ·rw [dS hm] at h
   rw [dk hm]
   exact hH.dom m h
 ·rcases org m e h with ⟨_, rfl⟩ | ⟨_, h1⟩
  ·exact ⟨(hfr b hb).1, (hfr b hb).2.1⟩
  ·exact hH.lt m e b h1 hb
 ·rcases org m e h with ⟨h1, rfl⟩ | ⟨h0, h1⟩
  ·rcases org m' e' h' with ⟨h1', rfl⟩ | ⟨_, h1'⟩
   ·rw [h1, h1']
   ·exact absurd hb' ((hfr b hb).2.2 m' e' h1')
  ·rcases org m' e' h' with ⟨h2', rfl⟩ | ⟨_, h1'⟩
   ·exact absurd hb ((hfr b hb').2.2 m e h1)
   ·exact hH.inj m m' e e' b h1 h1' hb hb'
theorem CP (H : Heap) : H.act2 ⟨[], [], fun _ => none⟩ = H := by
 funext m
 rfl
theorem Kb {rd : List Nat} (hq : ∀ g S, S ∈ cx.qs g → vJ cx.P g S) (hT : TR I w T a) (hH : HR I w H) (h : vI cx ops o T H v act rd) {K : Act → World → Prop} {Q : Exit → Act → World → Prop}
  (hk : ∀ I' w' u, Ext I w I' w' → HR I' w' (H.act2 act) → TR I' w' (dE (dJ act.u T) o.dst v) (a.put o.dst u) → K (a.put o.dst u) w') : if Region.wanted o (yielded ops a.tmps) then o.wp cx.P a w K Q ∨ (o.asks cx.P a w ∧ LetsOut Q) else K (a.put o.dst undef) w := by
 obtain ⟨h1, c, f, g, x, y, S, X, m, Y, k1, k2, k3, k4, k5, k6, k7, rfl, rfl, k10⟩ := h
 rw [mg hT h1, if_pos rfl]
 refine .inl ?_
 obtain ⟨x', y', e1, e2⟩ := kO (c := c) hT k3
 unfold Oper.wp
 rw [kP k1 k2 e1 (kN k4), Oper.upon_enter]
 refine Calls.mono (hq g S k5 hH e2 k6 k7) ?_
 rintro e w' he
 cases e with
 | returned z =>
  obtain ⟨m1, m4⟩ := he
  obtain ⟨m3, hs⟩ := m1.hr hH
  exact hk _ w' z (m1.ext I) (by rw [CP]; exact m3) ((hT.keep hs).put _ m4)
 | _ => exact he.elim
theorem HS {rd : List Nat} (hq : ∀ g S, S ∈ cx.qr g → tG cx.P g S) (hT : TR I w T a) (hH : HR I w H) (h : qc cx d ops o T H v act rd) {K : Act → World → Prop} {Q : Exit → Act → World → Prop}
  (hk : ∀ I' w' u, Ext I w I' w' → HR I' w' (H.act2 act) → TR I' w' (dE (dJ act.u T) o.dst v) (a.put o.dst u) → K (a.put o.dst u) w') : if Region.wanted o (yielded ops a.tmps) then o.wp cx.P a w K Q ∨ (o.asks cx.P a w ∧ LetsOut Q) else K (a.put o.dst undef) w := by
 obtain ⟨h1, c, f, g, x, y, S, X, m, Y, k1, k2, k3, k4, k5, k6, k7, k8, rfl, rfl, k11⟩ := h
 rw [mg hT h1, if_pos rfl]
 refine .inl ?_
 obtain ⟨x', y', e1, e2⟩ := kO (c := c) hT k3
 unfold Oper.wp
 rw [kP k1 k2 e1 (kN k4), Oper.upon_enter]
 refine Calls.mono (hq g S k5 hH e2 k6 k7) ?_
 rintro e w' he
 cases e with
 | returned z =>
  obtain ⟨m1, m2, ⟨cs, m3, m4⟩, m5⟩ := he
  obtain ⟨p1, p2⟩ := m1.stay hH
  have hlt : ∀ b, z.ownBlock = some b → b < w'.heap.size := by
   intro b hb
   rcases m3.2 with ⟨rfl, _⟩ | ⟨g, cap, cur, rfl, _, hh, _⟩
   ·cases hb
   ·simp only [Value.ownBlock, ab] at hb
    subst hb
    exact (Array.getElem?_eq_some_iff.1 hh).1
  obtain ⟨q1, q2⟩ := p1.putRow k8 m3 (m4 _) (fun b hb => ⟨hlt b hb, fun hR => by have := hH.rlt b hR; have := m5 b hb; omega, fun n e hn he => by have := (hH.lt n e b hn he).1; have := m5 b hb; omega⟩)
  have h0 := hH.dom _ k8
  have hpf : ∀ {m : Nat} {t : TypeId} {B : Nat → Nat → Prop}, (I.put (base d o.dst) (.row S.s.sz z)).ι m = some (.fam t B) ↔ I.ι m = some (.fam t B) := fun {m t B} => nP (fun t B h => by rw [h0] at h; cases h) (fun _ _ h => by cases h)
  have hact : H.set (base d o.dst) (some (.row S.E S.s Y)) = H.act2 ⟨[], [base d o.dst], fun _ => some (.row S.E S.s Y)⟩ := (vH H (some (base d o.dst, .row S.E S.s Y))).symm
  rw [hact] at q1
  refine hk _ w' z ⟨q2.obj, fun _ h => h, fun b hb _ => m1.same b hb, fun n e b hn hb => ?_, fun b h => .inl h, m1.size, m1.os, m1.tape, m1.output, fun _ _ _ h => h, fun t ht => ⟨rfl, fun n B h => ht n B (hpf.1 h)⟩⟩ q1 (((hT.keep p2).keep q2).put _ (.rw _ _ _ du m2))
  by_cases hm : n = base d o.dst
  ·subst hm
   rw [du] at hn
   simp only [ab] at hn
   subst hn
   exact .inr (m5 b hb)
  ·rw [dk hm] at hn
   exact .inl ⟨n, e, hn, hb⟩
 | _ => exact he.elim
theorem Kc (hs : ∀ g S, S ∈ cx.specs g → iu cx.P g S) (hT : TR I w T a) (hH : HR I w H) (h : rn cx ops o T H v act) {K : Act → World → Prop} {Q : Exit → Act → World → Prop}
  (hk : ∀ I' w' u, Ext I w I' w' → HR I' w' (H.act2 act) → TR I' w' (dE (dJ act.u T) o.dst v) (a.put o.dst u) → K (a.put o.dst u) w') : if Region.wanted o (yielded ops a.tmps) then o.wp cx.P a w K Q ∨ (o.asks cx.P a w ∧ LetsOut Q) else K (a.put o.dst undef) w := by
 obtain ⟨h1, c, f, g, x, y, S, X, m, Y, b, k1, k2, k3, k4, k5, k6, k7, k8, rfl, rfl⟩ := h
 rw [mg hT h1, if_pos rfl]
 refine .inl ?_
 obtain ⟨x', y', e1, e2⟩ := kO (c := c) hT k3
 have hkey := tH (HK k6)
 have hρ : ∀ i n, (i, n) ∈ m.σ → (kA b m).o i = n := fun i n hin => by
  have hg : m.get i = some n := yK hkey hin
  simp only [kA, hg]
 unfold Oper.wp
 rw [kP k1 k2 e1 (kN k4), Oper.upon_enter]
 refine Calls.mono (hs g S k5 (k := fun v H u => some (v, H, u)) hH e2 k6 hρ (by rw [k7, ae, if_pos k8])) ?_
 rintro e w' he
 cases e with
 | returned z =>
  obtain ⟨I', v', H', u, m1, m2, m3, m4, m5⟩ := he
  simp only [ab, ah] at m1
  obtain ⟨rfl, rfl, rfl⟩ := m1
  rw [Nq] at m3
  exact hk I' w' z m2 m3 ((CE hT hH m2 m5).put _ m4)
 | _ => exact he.elim
theorem HT {P : Program} {E : TypeId} {s : Sh} {x : DV} {ys : List s.T} {k : List DV → Heap → Option α} (h : d7 P d o E s x ys H (fun v a => some (v, a)) = some (v, act)) : iU P d o E s x ys T H k = k (dE (dJ act.u T) o.dst v) (H.act2 act) := by
 have one : ∀ n (b : Blk), ((H.sub n .none).set n (some b)) = H.act2 ⟨[n], [n], fun _ => some b⟩ := fun n b => by
  funext m
  simp only [Heap.set, Heap.act2]
  by_cases e : m = n
  ·simp [e]
  ·simp [e]
   rfl
 cases x
 case rw n =>
  simp only [d7] at h
  simp only [iU]
  split at h
  ·split at h
   ·rename_i hE
    split at h
    ·split at h
     ·rename_i hc
      simp only [ab, ah] at h
      obtain ⟨rfl, rfl⟩ := h
      simp only [hE, if_true, hc, one]
      rfl
     ·cases h
    ·cases h
   ·cases h
  ·cases h
 case sl n z l =>
  simp only [d7] at h
  simp only [iU]
  split at h
  ·split at h
   ·rename_i hz
    split at h
    ·rename_i hE
     split at h
     ·split at h
      ·rename_i hc
       simp only [ab, ah] at h
       obtain ⟨rfl, rfl⟩ := h
       simp only [hz, hE, if_true, hc, one]
       rfl
      ·cases h
     ·cases h
    ·cases h
   ·cases h
  ·cases h
 case sc v' =>
  cases v' with
  | slice ad n c =>
   cases ad with
   | none =>
    simp only [d7] at h
    simp only [iU]
    split at h
    ·rename_i hc
     rw [if_pos hc]
     split at h
     ·rename_i hb
      simp only [ab, ah] at h
      obtain ⟨rfl, rfl⟩ := h
      have hf : ln H 63 (base d o.dst) = base d o.dst := by
       unfold ln
       rw [hb]
      unfold gc
      simp only [hf, hb]
      have : H.act (some (base d o.dst, .row E s ys)) = H.act2 ⟨[], [base d o.dst], fun _ => some (.row E s ys)⟩ := (vH H (some (base d o.dst, .row E s ys))).symm
      rw [this]
      rfl
     ·cases h
    ·cases h
   | some ad => simp only [d7] at h; cases h
  | _ => simp only [d7] at h; cases h
 all_goals (simp only [d7] at h; cases h)
theorem Kd (hT : TR I w T a) (hH : HR I w H) (h : yI cx d ops o T H v act) {K : Act → World → Prop} {Q : Exit → Act → World → Prop}
  (hk : ∀ I' w' u, Ext I w I' w' → HR I' w' (H.act2 act) → TR I' w' (dE (dJ act.u T) o.dst v) (a.put o.dst u) → K (a.put o.dst u) w') : if Region.wanted o (yielded ops a.tmps) then o.wp cx.P a w K Q ∨ (o.asks cx.P a w ∧ LetsOut Q) else K (a.put o.dst undef) w := by
 obtain ⟨h1, c, x, y, t, e, s, ys, k1, k2, k3, k4, k5, k6, k7, k8, k9⟩ := h
 rw [mg hT h1, if_pos rfl]
 refine .inl ?_
 have hK : lv cx.P d o T H (fun T' H' => some (T', H')) = some (dE (dJ act.u T) o.dst v, H.act2 act) := by
  unfold lv
  simp only [k1, k2, k3, k4, if_true, k5, k6, k7, k8]
  exact HT k9
 obtain ⟨T', H', g1, g2⟩ := CB hT hH hK
 simp only [ab, ah] at g1
 obtain ⟨rfl, rfl⟩ := g1
 exact g2.wp fun I' w' u he hH' hT' => hk I' w' u he hH' hT'
end
theorem CQ {anc : List Nat} {j i : Nat} : jo anc j i = true ↔ (anc.getD j 0).testBit i = true := by
 unfold jo
 rw [Nat.testBit_eq_decide_div_mod_eq]
 simp only [av]
 rw [Nat.beq_eq]
theorem CT {acc : List Nat} {x : Nat} : ∀ {l : List Edge} {m : Nat}, (vC acc l m).testBit x = true ↔ m.testBit x = true ∨ ∃ e ∈ l, x = e.on ∨ jo acc e.on x = true
 | [], m => by simp [vC]
 | e :: r, m => by
  simp only [vC, CT (l := r), Nat.testBit_or, aE, Nat.testBit_two_pow, av, aB, exists_eq_or_imp, CQ]
  constructor
  ·rintro ((h | h | h) | h)
   ·exact .inl h
   ·exact .inr (.inl (.inl h.symm))
   ·exact .inr (.inl (.inr h))
   ·exact .inr (.inr h)
  ·rintro (h | (h | h) | h)
   ·exact .inl (.inl h)
   ·exact .inl (.inr (.inl h.symm))
   ·exact .inl (.inr (.inr h))
   ·exact .inr h
theorem tI : ∀ {l : List Oper} {i : Nat} {acc anc : List Nat}, tn i l acc = some anc → acc.length = i → (∃ t, anc = acc ++ t) ∧ ∀ n o, l[n]? = some o → (∀ e ∈ o.after.toList, Region.binds .any e = true → e.on < i + n) ∧ ∀ x, jo anc (i + n) x = true ↔ ∃ e ∈ o.after.toList.filter (Region.binds .any), x = e.on ∨ jo anc e.on x = true
 | [], i, acc, anc, h, hl => by
  simp only [tn, ab] at h
  subst h
  exact ⟨⟨[], by simp⟩, fun n o h => by simp at h⟩
 | o :: r, i, acc, anc, h, hl => by
  simp only [tn] at h
  split at h
  ·rename_i hall
   obtain ⟨⟨t, ht⟩, h2⟩ := tI h (by simp [hl])
   refine ⟨⟨_, by rw [ht, aI]⟩, fun n o' hn => ?_⟩
   cases n with
   | zero =>
    simp only [bu, ab] at hn
    subst hn
    have hlt : ∀ e ∈ o.after.toList, Region.binds .any e = true → e.on < i := by
     intro e he hb
     simp only [aN, cm, av] at hall
     exact hall e ⟨he, hb⟩
    refine ⟨fun e he hb => by have := hlt e he hb; omega, fun x => ?_⟩
    have hg : anc.getD (i + 0) 0 = vC acc (o.after.toList.filter (Region.binds .any)) 0 := by
     rw [ht, aq, aI, aW (by omega)]
     simp [hl]
    rw [CQ, hg, CT]
    simp only [Nat.zero_testBit, aL, false_or]
    have same : ∀ e ∈ o.after.toList.filter (Region.binds .any), jo acc e.on x = jo anc e.on x := by
     intro e he
     rw [cm] at he
     have := hlt e he.1 he.2
     unfold jo
     simp only [ht, aq, aI]
     rw [aO (by omega)]
    constructor
    ·rintro ⟨e, he, h⟩
     exact ⟨e, he, h.imp id fun h => by rw [← same e he]; exact h⟩
    ·rintro ⟨e, he, h⟩
     exact ⟨e, he, h.imp id fun h => by rw [same e he]; exact h⟩
   | succ n =>
    have := h2 n o' (by simpa using hn)
    rw [show i + (n + 1) = i + 1 + n by omega]
    exact this
  ·cases h
section
variable {ops : Array Oper} {anc : List Nat} {listed : Array Bool}
def HU (ops : Array Oper) (listed : Array Bool) (j : Nat) : Prop := ∀ o, ops[j]? = some o → ∀ e ∈ o.after, Region.binds .any e = true → listed.getD e.on false = true
theorem yL (ha : tn 0 ops.toList [] = some anc) (hc : ∀ j, listed.getD j false = true → HU ops listed j) : ∀ (n j : Nat), j ≤ n → j < ops.size → HU ops listed j → ∀ x, jo anc j x = true → listed.getD x false = true := by
 obtain ⟨_, hs⟩ := tI ha rfl
 intro n
 induction n with
 | zero =>
  intro j hj hlt hA x hx
  obtain ⟨h1, h2⟩ := hs j ops[j] (by simp [hlt])
  rw [show 0 + j = j by omega] at h1 h2
  rw [h2] at hx
  obtain ⟨e, he, hx⟩ := hx
  rw [cm] at he
  have := h1 e he.1 he.2
  omega
 | succ n ih =>
  intro j hj hlt hA x hx
  obtain ⟨h1, h2⟩ := hs j ops[j] (by simp [hlt])
  rw [show 0 + j = j by omega] at h1 h2
  rw [h2] at hx
  obtain ⟨e, he, hx⟩ := hx
  rw [cm] at he
  have hon := h1 e he.1 he.2
  have hl := hA ops[j] (by simp [hlt]) e (Array.mem_toList_iff.1 he.1) he.2
  rcases hx with rfl | hx
  ·exact hl
  ·exact ih e.on (by omega) (by omega) (hc e.on hl) x hx
end
theorem EL {ops : Array Oper} {anc : List Nat} (h : oo ops anc = true) {i j : Nat} {x y : Oper} (hij : i < j) (hx : ops.toList[i]? = some x) (hy : ops.toList[j]? = some y) : jo anc j i = true ∨ x.apart ops y = true := by
 rw [cr] at hx hy
 unfold oo at h
 rw [aN] at h
 have h1 := h j (by rw [bh]; exact (Array.getElem?_eq_some_iff.1 hy).1)
 rw [aN] at h1
 have h2 := h1 i (by rw [bh]; exact hij)
 rw [hx, hy] at h2
 simpa using h2
theorem Ke {anc : List Nat} {d j : Nat} {q : Bool} {log : List (Nat × Did)} {x : Did} {ops : Array Oper} (h : sH ops anc d j q log x = true) {i : Nat} {e : Did} (he : (i, e) ∈ log) (hq : q = true → wl e = true) (hs : jo anc j i = true ∨ e.o.apart ops x.o = true) : jo anc j i = true ∨ iM d ops e x = true := by
 rcases hs with hs | hs
 ·exact .inl hs
 ·have two : wl e = true → wl x = true → iM d ops e x = true := fun h1 h2 => by
   unfold wl at h1 h2
   simp only [aj, List.isEmpty_iff] at h1 h2
   unfold iM Gc Gb
   rw [h1.1, h2.1, h1.2, h2.2, hs]
   rfl
  unfold sH at h
  simp only [aE, aj] at h
  rcases h with ⟨h1, h2⟩ | h
  ·exact .inr (two (hq h1) h2)
  ·rw [aN] at h
   have := h _ he
   simp only [aE, aj] at this
   rcases this with ⟨h1, h2⟩ | h1 | h1
   ·exact .inr (two h1 h2)
   ·exact .inl h1
   ·refine .inr ?_
    unfold iM
    rw [hs, Bool.and_true]
    exact h1
end Go.Proofs.Dk
