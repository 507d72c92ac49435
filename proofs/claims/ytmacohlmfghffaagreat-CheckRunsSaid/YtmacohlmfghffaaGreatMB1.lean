/- A part of the proofs: What is built; what is appended. -/
import Derived.Test.YtmacohlmfghffaaGreatMB0
import Derived.Great.BuildSlice
import Derived.Laws.OwnMore
import Derived.Laws.BytesArg
import Derived.Laws.IdiomStrings
import Derived.Laws.AppendOwn
import Derived.MapKept
import Derived.Tactics
import Derived.Orders
/- What is built; what is appended. -/
namespace Go.Proofs.Dk
open Go Go.RowKit
set_option linter.unusedVariables false
set_option linter.unusedSimpArgs false
section
variable {P : Program} {I : In} {w w' : World} {T : List DV} {a : Act} {H : Heap} {α : Type}
theorem foldl_set : ∀ (l : List Value) (k off : Nat) (cells : Array Value), off + k + l.length ≤ cells.size → ((l.zipIdx k).foldl (fun cs (x : Value × Nat) => cs.setIfInBounds (off + x.2) x.1) cells).toList = splice cells.toList (off + k) l
  | [], k, off, cells, h => by simp [splice]
  | v :: l, k, off, cells, h => by
    simp only [List.length_cons] at h
    rw [List.zipIdx_cons, List.foldl_cons, foldl_set l (k + 1) off _ (by simp; omega), Array.toList_setIfInBounds]
    obtain ⟨x, y, z, e, hx⟩ : ∃ (x : List Value) (y : Value) (z : List Value), cells.toList = x ++ y :: z ∧ x.length = off + k := by
      have hlt : off + k < cells.toList.length := by simp; omega
      exact ⟨cells.toList.take (off + k), cells.toList[off + k], cells.toList.drop (off + k + 1), by rw [← List.drop_eq_getElem_cons hlt, List.take_append_drop], by simp; omega⟩
    rw [e, ← Nat.add_assoc, ← hx]
    have e1 : (x ++ y :: z).set x.length v = x ++ ([v] ++ z) := by simp
    have e2 : x ++ y :: z = x ++ ([y] ++ z) := by simp
    rw [e1, e2]
    have a1 := splice_left (c1 := x) (c2 := [v] ++ z) (d := l) (o := 1)
    have a2 := splice_left (c1 := x) (c2 := [y] ++ z) (d := v :: l) (o := 0)
    rw [a1]
    rw [Nat.add_zero] at a2
    rw [a2]
    simp [splice, List.drop_succ_cons, Nat.add_comm]
theorem fill_cons {place : Nat → Option (Nat × Nat)} {cells : Array Value} {i off size : Nat} {v : Value} {rest : List (Nat × Value)} (hp : place i = some (off, size)) (hz : v.cells.size = size) (hl : off + v.cells.size ≤ cells.size) :
    ∃ cells', cells'.toList = splice cells.toList off v.cells.toList ∧ Instr.fill place cells ((i, v) :: rest) = Instr.fill place cells' rest := by
  refine ⟨v.cells.zipIdx.foldl (fun cs (c, j) => cs.setIfInBounds (off + j) c) cells, ?_, ?_⟩
  rotate_left
  · rw [Instr.fill]
    have hd : ¬ (cells.size < off + size) := by omega
    simp [hp, hz, hd]
  · have := foldl_set v.cells.toList 0 off cells (by simpa using hl)
    rw [← Array.foldl_toList]
    simpa using this
inductive Parts (I : In) (w : World) : List (Nat × DV) → List (Nat × Value) → Prop where
  | nil : Parts I w [] []
  | cons (i : Nat) (d : DV) (v : Value) (r : List (Nat × DV)) (r' : List (Nat × Value)) (h : VR I w d v) (hr : Parts I w r r') : Parts I w ((i, d) :: r) ((i, v) :: r')
theorem fillD_ok {place : Nat → Option (List Ix × Nat)} {pm : Nat → Option (Nat × Nat)} (hpl : ∀ i p n, place i = some (p, n) → pm i = some (pOff p, n) ∧ pOk p) :
    ∀ {ps : List (Nat × DV)} {ps' : List (Nat × Value)} {its out : List DV} {c : Array Value}, Parts I w ps ps' → fillD place ps its = some out → CR I w its c.toList → ∃ c', Instr.fill pm c ps' = some c' ∧ CR I w out c'.toList
  | _, _, its, out, c, .nil, h, hc => by
    simp only [fillD, Option.some.injEq] at h
    subst h
    exact ⟨c, rfl, hc⟩
  | _, _, its, out, c, .cons i d v r r' hd hr, h, hc => by
    simp only [fillD] at h
    split at h
    · rename_i p n hpn
      split at hpn
      · rename_i hst
        split at h
        · rename_i hw
          split at h
          · rename_i its' hset
            obtain ⟨h1, h2⟩ := hpl i p n hpn
            have hC := items_ok hd hst
            have hlen := hC.len
            obtain ⟨k1, k2⟩ := setD_ok hset h2 hc hC
            have hz : v.cells.size = n := by rw [← hw, ← hlen]; simp
            obtain ⟨c', e1, e2⟩ := fill_cons (rest := r') h1 hz (by simpa using k1)
            obtain ⟨c2, g1, g2⟩ := fillD_ok hpl hr h (c := c') (by rw [e1]; exact k2)
            exact ⟨c2, by rw [e2, g1], g2⟩
          · cases h
        · cases h
      · cases hpn
    · cases h
theorem parts_of (hT : TR I w T a) : ∀ ps : List (Nat × Operand), Parts I w (ps.map fun e => (e.1, evO T e.2)) (ps.map fun e => (e.1, a.eval e.2))
  | [] => .nil
  | e :: r => .cons _ _ _ _ _ (evO_ok hT e.2) (parts_of hT r)
theorem placeD_ok {t : TypeId} {it : TypeInfo} {z : Value} (hit : P.info? t = some it) (hz : it.zero = some z) (hne : okBuild P t = true) :
    ∃ pm : Nat → Option (Nat × Nat), (∀ i p n, placeD P t i = some (p, n) → pm i = some (pOff p, n) ∧ pOk p) ∧ ∀ ps' c, Instr.fill pm z.cells ps' = some c → P.built t ps' = some c := by
  cases hu : P.underlying t with
  | none => simp [okBuild, hu] at hne
  | some d =>
    cases d with
    | struct fs =>
      have hall : fs.toList.all (fun f => (P.info? f.type).isSome) = true := by
        simpa only [okBuild, hu] using hne
      have hpl : ∀ l : List Field, (∀ x ∈ l, (P.info? x.type).isSome = true) → l.mapM (fun f => (P.info? f.type).map fun i => (f.offset, i.size)) = some (l.map fun f => (f.offset, sizeT P f.type)) := by
        intro l
        induction l with
        | nil => intro _; rfl
        | cons f l ih =>
          intro h
          obtain ⟨i, hi⟩ := Option.isSome_iff_exists.1 (h f (List.mem_cons_self ..))
          rw [List.mapM_cons, ih (fun x hx => h x (List.mem_cons_of_mem _ hx)), hi]
          simp [sizeT, hi]
      have hpl := hpl fs.toList (List.all_eq_true.1 hall)
      refine ⟨((fs.toList.map fun f => (f.offset, sizeT P f.type)).toArray[·]?), fun i p n h => ?_, fun ps' c h => ?_⟩
      · simp only [placeD, hu, hall, if_true] at h
        split at h
        · rename_i g hg
          simp only [Option.some.injEq, Prod.mk.injEq] at h
          obtain ⟨rfl, rfl⟩ := h
          refine ⟨?_, trivial⟩
          simp [hg, pOff]
        · cases h
      · unfold Program.built
        rw [hit, hu]
        simp only [hz, hpl]
        exact h
    | array m e =>
      have hsz : szOk P e (sizeT P e) = true := by
        simpa only [okBuild, hu] using hne
      obtain ⟨ie, hie, hs2⟩ := szOk_info hsz
      refine ⟨fun i => some (i * ie.size, ie.size), fun i p n h => ?_, fun ps' c h => ?_⟩
      · simp only [placeD, hu, hsz, if_true] at h
        split at h
        · rename_i s hs
          split at h
          · rename_i hi
            split at h
            · rename_i hss
              simp only [Option.some.injEq, Prod.mk.injEq] at h
              obtain ⟨rfl, rfl⟩ := h
              exact ⟨by simp [pOff, hs2, hss], hi, trivial⟩
            · cases h
          · cases h
        · simp only [Option.some.injEq, Prod.mk.injEq] at h
          obtain ⟨rfl, rfl⟩ := h
          exact ⟨by simp [pOff, hs2], trivial⟩
      · unfold Program.built
        rw [hit, hu]
        simp only [hz, hie]
        exact h
    | _ => simp [okBuild, hu] at hne
theorem build_ok {o : Oper} {t : TypeId} {ps : Array (Nat × Operand)} {its out : List DV} (ho : o.op = .build t ps) (hT : TR I w T a) (hH : HR I w H) (hne : okBuild P t = true) (hz : zeroT P t = some its) (h : fillD (placeD P t) (ps.toList.map fun e => (e.1, evO T e.2)) its = some out) : Done P o a I w H (.agg out) none := by
  obtain ⟨it, z, hit, hz0, hC⟩ := zeroT_ok (I := I) (w := w) hz
  have hex : ∃ c, P.built t (ps.toList.map fun e => (e.1, a.eval e.2)) = some c ∧ CR I w out c.toList := by
    obtain ⟨pm, h1, h2⟩ := placeD_ok (P := P) hit hz0 hne
    obtain ⟨c, g1, g2⟩ := fillD_ok h1 (parts_of hT ps.toList) h hC
    exact ⟨c, h2 _ _ g1, g2⟩
  obtain ⟨c, hb, hC2⟩ := hex
  refine Done.pure (u := .agg c) hH ?_ (.agg _ _ hC2)
  unfold execOp
  rw [ho]
  refine run_v (run_build w t _ c ?_)
  rw [← hb]
  congr 1
  simp
theorem decL_ok {s : Sh} : ∀ {ds : List DV} {vs : List Value} {xs : List s.T}, LR I w ds vs → decL s ds = some xs → xs.length = vs.length ∧ (∀ v ∈ vs, v.cells.size = s.sz) ∧ (Sh.arr xs.length s).K I.R w xs (vs.flatMap fun v => v.cells.toList)
  | _, _, xs, .nil, h => by
    simp only [decL, Option.some.injEq] at h
    subst h
    exact ⟨rfl, fun v hv => by (cases hv), rfl, by simp, fun i x hx => by simp at hx⟩
  | _, _, xs, .cons d r v vs hd hr, h => by
    simp only [decL] at h
    split at h
    · rename_i y hy
      split at hy
      · rename_i hst
        split at h
        · rename_i l hl
          simp only [Option.some.injEq] at h
          subst h
          obtain ⟨h1, h2, h3, h4, h5⟩ := decL_ok hr hl
          obtain ⟨c1, c2, e1, k1, k2⟩ := Sh.dec_ok hy (items_ok hd hst)
          cases k2
          rw [List.append_nil] at e1
          have hlen := Sh.K_len k1
          rw [← e1] at hlen k1
          have hsz : v.cells.size = s.sz := by simpa using hlen
          refine ⟨by simp [h1], fun u hu => ?_, rfl, ?_, fun i x hx => ?_⟩
          · rcases List.mem_cons.1 hu with rfl | hu
            · exact hsz
            · exact h2 u hu
          · simp only [List.flatMap_cons, List.length_append, hlen, h4, List.length_cons, Nat.succ_mul]
            omega
          · rw [List.flatMap_cons]
            cases i with
            | zero =>
              simp only [List.getElem?_cons_zero, Option.some.injEq] at hx
              subst hx
              rw [Nat.zero_mul, List.drop_zero, List.take_append_of_le_length (Nat.le_of_eq hlen.symm), List.take_of_length_le (Nat.le_of_eq hlen)]
              exact k1
            | succ i =>
              simp only [List.getElem?_cons_succ] at hx
              have := h5 i x hx
              rw [Nat.succ_mul, Nat.add_comm, ← List.drop_drop, List.drop_append_of_le_length (Nat.le_of_eq hlen.symm), List.drop_of_length_le (Nat.le_of_eq hlen), List.nil_append]
              exact this
        · cases h
      · cases hy
    · cases h
theorem fill_dense {sz : Nat} : ∀ {vs : List Value} {k : Nat} {c : Array Value}, (∀ v ∈ vs, v.cells.size = sz) → (k + vs.length) * sz = c.size →
    ∃ c', Instr.fill (fun i => some (i * sz, sz)) c ((List.range' k vs.length).zip vs) = some c' ∧ c'.toList = c.toList.take (k * sz) ++ vs.flatMap fun v => v.cells.toList
  | [], k, c, _, hl => by
    refine ⟨c, rfl, ?_⟩
    simp only [List.length_nil, Nat.add_zero] at hl
    simp [List.take_of_length_le, hl]
  | v :: vs, k, c, hv, hl => by
    simp only [List.length_cons] at hl
    have h1 := hv v (List.mem_cons_self ..)
    have hle : k * sz + sz ≤ c.size := by
      rw [← hl, ← Nat.succ_mul]
      exact Nat.mul_le_mul_right _ (by omega)
    obtain ⟨c1, e1, e2⟩ := fill_cons (place := fun i => some (i * sz, sz)) (rest := (List.range' (k + 1) vs.length).zip vs) (i := k) (v := v) (cells := c) rfl h1 (by omega)
    have hc1 : c1.size = c.size := by
      have := congrArg List.length e1
      rw [splice_len (by simp; omega)] at this
      simpa using this
    obtain ⟨c', g1, g2⟩ := fill_dense (k := k + 1) (c := c1) (fun u hu => hv u (List.mem_cons_of_mem _ hu)) (by rw [hc1, ← hl]; congr 1; omega)
    refine ⟨c', ?_, ?_⟩
    · rw [List.length_cons, List.range'_succ, List.zip_cons_cons, e2, g1]
    · rw [g2, e1, Nat.succ_mul]
      simp only [splice, List.flatMap_cons]
      have hx : (c.toList.take (k * sz)).length = k * sz := by simp; omega
      have hvl : v.cells.toList.length = sz := by simpa using h1
      rw [List.append_assoc, List.take_append, hx]
      rw [List.take_of_length_le (by omega : (c.toList.take (k * sz)).length ≤ k * sz + sz), Nat.add_sub_cancel_left, List.take_append_of_le_length (by omega)]
      have h3 : v.cells.toList.take sz = v.cells.toList := List.take_of_length_le (by omega)
      rw [h3]
      simp
theorem LR.map (hT : TR I w T a) : ∀ ps : List Operand, LR I w (ps.map (evO T)) (ps.map a.eval)
  | [] => .nil
  | e :: r => .cons _ _ _ _ (evO_ok hT e) (LR.map hT r)
theorem buildSlice_ok {o : Oper} {t e : TypeId} {s : Sh} {m n : Nat} {ps : Array (Nat × Operand)} {xs : List s.T} (ho : o.op = .buildSlice t m ps) (hT : TR I w T a) (hH : HR I w H) (hn : H n = none) (hu : P.underlying t = some (.slice e)) (hi : ps.toList.map (·.1) = List.range m) (hs : szOk P e s.sz = true)
    (hx : decL s (ps.toList.map fun e => evO T e.2) = some xs) (h1 : m * s.sz ≤ 4096) (hp : 0 < s.sz) (h2 : m = 0 ∨ (zeroT P e).isSome = true) : Done P o a I w H (.rw n) (some (n, .row e s xs)) := by
  obtain ⟨ie, hie, hsz⟩ := szOk_info hs
  have hLR : LR I w (ps.toList.map fun e => evO T e.2) (ps.toList.map fun e => a.eval e.2) := by
    have := LR.map hT (ps.toList.map (·.2))
    simpa [List.map_map, Function.comp_def] using this
  obtain ⟨g1, g2, g3⟩ := decL_ok hLR hx
  have hm : ps.toList.length = m := by
    have := congrArg List.length hi
    simpa using this
  have hxm : xs.length = m := by rw [g1]; simpa using hm
  have hparts : (ps.map fun x => (x.1, a.eval x.2)).toList = (List.range' 0 m).zip (ps.toList.map fun e => a.eval e.2) := by
    rw [Array.toList_map, ← List.range_eq_range', ← hi, List.zip_map', ]
  have hmx : m ≤ m * s.sz := Nat.le_mul_of_pos_right m hp
  by_cases hz : m = 0
  · subst hz
    have hps : ps = #[] := by
      apply Array.ext'
      simpa using List.eq_nil_of_length_eq_zero hm
    have hxs : xs = [] := List.eq_nil_of_length_eq_zero hxm
    subst hxs
    subst hps
    have hr : (Instr.buildSlice t 0 #[]).run P w = .ok (.slice (some ⟨w.heap.size, 0, none⟩) 0 0) (w.alloc (.cells #[] e)) := by
      simp [Instr.buildSlice, run_underlying hu, sizeOf, typeInfo, hie, newRow, Instr.fill, Array.range_zero']
    exact allocRow (P := P) (a := a) (o := o) (E := e) (s := s) (xs := []) (c := #[]) hH hn (by simpa using g3) (by simp) (by
      unfold execOp
      rw [ho]
      refine run_v ?_
      simpa using hr)
  · have hpos : 0 < m * s.sz := Nat.mul_pos (by omega) hp
    obtain ⟨its, hits⟩ := Option.isSome_iff_exists.1 (h2.resolve_left hz)
    obtain ⟨ie', z, hie', hz0, _⟩ := zeroT_ok (I := I) (w := w) hits
    rw [hie] at hie'
    cases hie'
    have hlen : (ps.toList.map fun e => a.eval e.2).length = m := by simpa using hm
    obtain ⟨c', f1, f2⟩ := fill_dense (sz := s.sz) (k := 0) (c := (Array.range (m * ie.size)).map (z.cells[· % z.cells.size]!)) g2 (by rw [hlen]; simp [hsz])
    rw [hlen] at f1
    have hr := run_buildSlice (P := P) w t e m (ps.map fun x => (x.1, a.eval x.2)) c' ie z hu hie hz0 (by rw [hsz]; omega) (by rw [hsz]; omega) (by rw [hparts, hsz]; rw [hsz] at f1; exact f1)
    have := allocRow (P := P) (a := a) (o := o) (E := e) (s := s) (xs := xs) (c := c') hH hn (by rw [f2]; simpa using g3) (by simp only [maxLen]; omega) (by
      unfold execOp
      rw [ho]
      refine run_v ?_
      rw [hxm]
      exact hr)
    exact this
end
end Go.Proofs.Dk

/- What is appended. -/
namespace Go.Proofs.Dk
open Go Go.RowKit
set_option linter.unusedVariables false
set_option linter.unusedSimpArgs false
section
variable {P : Program} {I : In} {w w' : World} {T : List DV} {a : Act} {H : Heap} {α : Type}
theorem elems_ok {s : Sh} {d : DV} {v : Value} {ys : List s.T} (hH : HR I w H) (hd : VR I w d v) (h : elemsD H s d = some ys) :
    ∃ A c, v = .slice A ys.length c ∧ ∃ news : List Value, (Sh.arr ys.length s).K I.R w ys news ∧ (A = none → ys = []) ∧ ∀ ad, A = some ad → ∀ j u, news[j]? = some u → w.cell? (ad.add j) = some u := by
  have fromK : ∀ {xs : List s.T} {v : Value}, (Sh.sl s).K I.R w xs [v] → ∃ A c, v = .slice A xs.length c ∧ ∃ news : List Value, (Sh.arr xs.length s).K I.R w xs news ∧ (A = none → xs = []) ∧ ∀ ad, A = some ad → ∀ j u, news[j]? = some u → w.cell? (ad.add j) = some u := by
    rintro xs v ⟨A, cap, e1, e2, e3⟩
    simp only [List.cons.injEq, and_true] at e1
    subst e1
    refine ⟨A, cap, rfl, ?_⟩
    by_cases hne : xs = []
    · subst hne
      exact ⟨[], ⟨rfl, by simp, fun i x hx => by simp at hx⟩, fun _ => rfl, fun ad _ j u hu => by simp at hu⟩
    · obtain ⟨ad, rfl, g1, g2, g3⟩ := e3 hne
      have hall : ∀ i, i < xs.length → ∃ c : List Value, c.length = s.sz ∧ (∀ x, xs[i]? = some x → s.K I.R w x c) ∧ ∀ j u, c[j]? = some u → w.cell? (ad.add (i * s.sz + j)) = some u := by
        intro i hi
        obtain ⟨c, m1, m2, m3⟩ := g3 i _ (List.getElem?_eq_getElem hi)
        refine ⟨c, m1, fun x hx => ?_, m3⟩
        rw [List.getElem?_eq_getElem hi] at hx
        simp only [Option.some.injEq] at hx
        subst hx
        exact m2
      obtain ⟨X, hX⟩ := Go.Deep.choose_lt hall
      have hlen : ∀ n, n ≤ xs.length → ((List.range n).flatMap X).length = n * s.sz := by
        intro n
        induction n with
        | zero => intro _; simp
        | succ n ih =>
          intro hn
          rw [List.range_succ, List.flatMap_append, List.length_append, ih (by omega)]
          simp [(hX n (by omega)).1, Nat.succ_mul]
      have hget : ∀ n, n ≤ xs.length → ∀ i j, i < n → j < s.sz → ((List.range n).flatMap X)[i * s.sz + j]? = (X i)[j]? := by
        intro n
        induction n with
        | zero => intro _ i j hi; omega
        | succ n ih =>
          intro hn i j hi hj
          rw [List.range_succ, List.flatMap_append]
          have hl := hlen n (by omega)
          rcases Nat.lt_or_ge i n with h1 | h1
          · have : i * s.sz + s.sz ≤ n * s.sz := by rw [← Nat.succ_mul]; exact Nat.mul_le_mul_right _ h1
            rw [List.getElem?_append_left (by omega)]
            exact ih (by omega) i j h1 hj
          · have : i = n := by omega
            subst this
            rw [List.getElem?_append_right (by omega), hl]
            simp
      refine ⟨(List.range xs.length).flatMap X, ⟨rfl, hlen _ (Nat.le_refl _), fun i x hx => ?_⟩, fun h => by (cases h), fun ad' h j u hu => ?_⟩
      · have hi := (List.getElem?_eq_some_iff.1 hx).1
        have : (((List.range xs.length).flatMap X).drop (i * s.sz)).take s.sz = X i := by
          apply List.ext_getElem?
          intro j
          rw [List.getElem?_take]
          split
          · rename_i hj
            rw [List.getElem?_drop]
            exact hget _ (Nat.le_refl _) i j hi hj
          · rw [List.getElem?_eq_none (by rw [(hX i hi).1]; omega)]
        rw [this]
        exact (hX i hi).2.1 x hx
      · simp only [Option.some.injEq] at h
        subst h
        have hj := (List.getElem?_eq_some_iff.1 hu).1
        rw [hlen _ (Nat.le_refl _)] at hj
        have hz : 0 < s.sz := by
          rcases Nat.eq_zero_or_pos s.sz with h | h
          · rw [h] at hj; omega
          · exact h
        have hq : j / s.sz < xs.length := by rw [Nat.div_lt_iff_lt_mul hz]; exact hj
        have hm : j % s.sz < s.sz := Nat.mod_lt _ hz
        have hjq : j / s.sz * s.sz + j % s.sz = j := by rw [Nat.mul_comm]; exact Nat.div_add_mod j s.sz
        have := (hX (j / s.sz) hq).2.2 (j % s.sz) u (by rw [← hget _ (Nat.le_refl _) _ _ hq hm, hjq]; exact hu)
        rw [hjq] at this
        exact this
  unfold elemsD at h
  split at h
  · rename_i s' xs
    cases hd with | vs _ _ _ hk =>
    split at h
    · rename_i hs hq
      cases hs
      simp only [Option.some.injEq] at h
      subst h
      exact fromK hk
    · cases h
  · rename_i n c
    obtain rfl := hd.sc_eq
    split at h
    · rename_i hn
      subst hn
      simp only [Option.some.injEq] at h
      subst h
      exact ⟨none, c, rfl, [], ⟨rfl, by simp, fun i x hx => by simp at hx⟩, fun _ => rfl, fun ad h => by cases h⟩
    · cases h
  · rename_i n
    cases hd with | rw _ sz v hi hs =>
    split at h
    · rename_i E s' xs hrow
      split at h
      · rename_i hs' hq
        cases hs'
        simp only [Option.some.injEq] at h
        subst h
        obtain ⟨A, l, c, rfl⟩ := hs
        obtain ⟨h1, rfl, h3, h4⟩ := row_hdr hH hrow hi
        refine ⟨A, c, rfl, ?_⟩
        rcases Nat.eq_zero_or_pos xs.length with h0 | h0
        · have : xs = [] := List.eq_nil_of_length_eq_zero h0
          subst this
          exact ⟨[], ⟨rfl, by simp, fun i x hx => by simp at hx⟩, fun _ => rfl, fun ad _ j u hu => by simp at hu⟩
        · obtain ⟨b, rfl⟩ := h4 h0
          obtain ⟨_, _, cs, k1, k2, k3⟩ := row_cells hH hrow hi
          refine ⟨cs, k1, fun h => by (cases h), fun ad had j u hu => ?_⟩
          simp only [Option.some.injEq] at had
          subst had
          rw [Addr.add_mid, Nat.zero_add]
          exact k3 j u hu
      · cases h
    · cases h
  · rename_i n o l
    cases hd with | sl _ _ _ sz A A' len cap cap' hi hl h0' h1' hc' =>
    split at h
    · rename_i E s' xs hrow
      split at h
      · rename_i hs' hq
        cases hs'
        simp only [Option.some.injEq] at h
        subst h
        obtain ⟨h1, rfl, h3, h4⟩ := row_hdr hH hrow hi
        have hlen : ((xs.drop o).take l).length = l := by simp; omega
        refine ⟨A', cap', by rw [hlen], ?_⟩
        rcases Nat.eq_zero_or_pos l with h0 | h0
        · subst h0
          simp only [List.take_zero]
          exact ⟨[], ⟨rfl, by simp, fun i x hx => by simp at hx⟩, fun _ => by trivial, fun ad _ j u hu => by simp at hu⟩
        · obtain ⟨b, rfl, rfl⟩ := h1' h0
          obtain ⟨_, _, cs, k1, k2, k3⟩ := row_cells hH hrow hi
          subst h1
          have hcl := k1.2.1
          refine ⟨(cs.drop (o * s.sz)).take (l * s.sz), ⟨by rw [hlen], ?_, fun i x hx => ?_⟩, fun h => by (cases h), fun ad had j u hu => ?_⟩
          · have : o * s.sz + l * s.sz ≤ xs.length * s.sz := by rw [← Nat.add_mul]; exact Nat.mul_le_mul_right _ hl
            rw [hlen]
            simp
            omega
          · have hx2 : xs[o + i]? = some x ∧ i < l := by
              rw [List.getElem?_take] at hx
              split at hx
              · rename_i hil
                rw [List.getElem?_drop] at hx
                exact ⟨hx, hil⟩
              · cases hx
            have := k1.2.2 _ x hx2.1
            have hle : i * s.sz + s.sz ≤ l * s.sz := by rw [← Nat.succ_mul]; exact Nat.mul_le_mul_right _ hx2.2
            have e1 : (((cs.drop (o * s.sz)).take (l * s.sz)).drop (i * s.sz)).take s.sz = (cs.drop ((o + i) * s.sz)).take s.sz := by
              rw [List.drop_take, List.take_take, List.drop_drop, Nat.add_mul]
              congr 1
              omega
            rw [e1]
            exact this
          · simp only [Option.some.injEq] at had
            subst had
            rw [Addr.add_mid]
            refine k3 _ u ?_
            rw [List.getElem?_take] at hu
            split at hu
            · rw [List.getElem?_drop] at hu
              exact hu
            · cases hu
      · cases h
    · cases h
  · cases h
theorem run_append_nil {base : Nat} {t ty e : TypeId} {i : TypeInfo} {size c : Nat} (ht : P.underlying t = some (.slice e)) (hi : P.info? e = some i) (v : Value) (n : Nat) (xs : List Value) (hown : w.ownsRow base e size v n xs) :
    (Builtin.append_ #[t, t] ty #[v, .slice none 0 c]).run P w = .ok v w := by
  rcases hown.2 with ⟨rfl, rfl⟩ | ⟨g, cap, cur, rfl, _, _, hnc, _⟩
  · simp [Builtin.append_, run_underlying ht, sizeOf, typeInfo, hi, Builtin.lenOf, Builtin.firstCells]
  · simp [Builtin.append_, run_underlying ht, sizeOf, typeInfo, hi, Builtin.lenOf, Builtin.firstCells, hnc, storeCells]
theorem append_run {t ty e : TypeId} {s : Sh} {xs ys : List s.T} {v : Value} {cs : List Value} {d : DV} {u : Value} (hH : HR I w H) (hz : zeroOk P e s = true) (hu : P.underlying t = some (.slice e)) (hown : w.ownsRow 0 e s.sz v xs.length cs) (hk : (Sh.arr xs.length s).K I.R w xs cs)
    (hd : VR I w d u) (hy : elemsD H s d = some ys) (hb : (xs.length + ys.length) * bytesT P e ≤ 140737488355328) (h1 : 1 ≤ bytesT P e) :
    ∃ v' w' cs', (Builtin.append_ #[t, t] ty #[v, u]).run P w = .ok v' w' ∧ w'.ownsRow 0 e s.sz v' (xs ++ ys).length cs' ∧ w.grownBy w' v.ownBlock ∧ (v'.ownBlock = v.ownBlock ∨ v'.ownBlock = some w.heap.size) ∧ (Sh.arr (xs ++ ys).length s).K I.R w (xs ++ ys) cs' := by
  obtain ⟨i, z, hi, hz0, hsz, hp, hkz⟩ := zeroOk_ok (w := w) (R := I.R) hz
  obtain ⟨A, c, rfl, news, k1, k2, k3⟩ := elems_ok hH hd hy
  have hbt : bytesT P e = i.bytes := by simp [bytesT, hi]
  rw [hbt] at hb h1
  have hcat : (Sh.arr (xs ++ ys).length s).K I.R w (xs ++ ys) (cs ++ news) := by
    refine ⟨rfl, by simp [hk.2.1, k1.2.1, Nat.add_mul], fun i x hx => ?_⟩
    rcases Nat.lt_or_ge i xs.length with h | h
    · rw [List.getElem?_append_left h] at hx
      have := hk.2.2 i x hx
      have hle : i * s.sz + s.sz ≤ xs.length * s.sz := by rw [← Nat.succ_mul]; exact Nat.mul_le_mul_right _ h
      rw [List.drop_append_of_le_length (by rw [hk.2.1]; omega), List.take_append_of_le_length (by simp [hk.2.1]; omega)]
      exact this
    · rw [List.getElem?_append_right h] at hx
      have := k1.2.2 _ x hx
      have e1 : i * s.sz = cs.length + (i - xs.length) * s.sz := by
        rw [hk.2.1, ← Nat.add_mul]
        congr 1
        omega
      rw [e1, List.drop_length_add_append]
      exact this
  cases A with
  | none =>
    have : ys = [] := k2 rfl
    subst this
    refine ⟨v, w, cs, run_append_nil hu hi v xs.length cs hown, by simpa using hown, ⟨rfl, rfl, rfl, Nat.le_refl _, fun _ _ _ => rfl⟩, .inl rfl, by rw [List.append_nil]; exact hk⟩
  | some ad =>
    have hzs : z.cells.size = s.sz := by simpa using Sh.K_len hkz
    have h63 : xs.length + ys.length ≤ maxLen := by
      have : (xs.length + ys.length) * 1 ≤ (xs.length + ys.length) * i.bytes := Nat.mul_le_mul_left _ h1
      simp only [maxLen]
      omega
    obtain ⟨v', w', g1, g2, g3, _, g5⟩ := run_append_own_at (P := P) w 0 t ty e i z s.sz i.bytes hu hi hz0 hsz rfl hzs hp v xs.length cs hown ad ys.length c news k1.2.1 (k3 ad rfl) (Sh.K_one k1) h63 hb (Nat.zero_le _)
    exact ⟨v', w', cs ++ news, g1, by simpa using g2, g3, g5, hcat⟩
theorem turn {n sz : Nat} {v v' : Value} {E : TypeId} {s : Sh} {xs : List s.T} {cs : List Value} (hH : HR I w H) (h0 : I.ι n = some (.row sz v)) (hg : w.grownBy w' v.ownBlock) (hv : v'.ownBlock = v.ownBlock ∨ v'.ownBlock = some w.heap.size) (hown : w'.ownsRow 0 E s.sz v' xs.length cs) (hk : (Sh.arr xs.length s).K I.R w xs cs) :
    HR (I.put n (.row s.sz v')) w' ((H.sub n .none).set n (some (.row E s xs))) ∧ Ext I w (I.put n (.row s.sz v')) w' ∧ But n .none I (I.put n (.row s.sz v')) w w' := by
  have hlt : ∀ b, v'.ownBlock = some b → b < w'.heap.size := by
    intro b hb
    rcases hown.2 with ⟨rfl, _⟩ | ⟨g, cap, cur, rfl, _, hh, _⟩
    · cases hb
    · simp only [Value.ownBlock, Option.some.injEq] at hb
      subst hb
      exact (Array.getElem?_eq_some_iff.1 hh).1
  have hkeep : Keeps I.R (I.put n (.row s.sz v')).R w w' := ⟨fun _ h => h, fun b hb => hg.block b (hH.rlt b hb) (fun e => (hH.lt n _ b h0 (by simp [Ent.blk, ← e])).2 hb)⟩
  have hbut : But n .none I (I.put n (.row s.sz v')) w w' := by
    refine ⟨hkeep, fun m b h => ?_, fun m sz' u hm h => by rw [In.put_ne hm]; exact h, fun s xs h => by cases h⟩
    rw [In.put_ne]
    · exact h
    · rintro rfl; rw [h0] at h; cases h
  refine ⟨HR.of (fun m b h => ?_) (fun m h => ?_) (fun m e b h hb => ?_) (fun m m' e e' b h h' hb hb' => ?_) (fun b h => ?_), ⟨hbut.obj, fun _ h => h, fun b hb hn => hg.block b hb (fun e => hn n _ h0 (by simp [Ent.blk, ← e])), fun m e b h hb => ?_, fun b h => .inl h, hg.size, hg.os, hg.tape, hg.output⟩, hbut⟩
  · by_cases hm : m = n
    · subst hm
      rw [Heap.set_same] at h
      simp only [Option.some.injEq] at h
      subst h
      exact ⟨v', cs, In.put_same, hown, Sh.K_keep hkeep hk⟩
    · rw [Heap.set_ne hm] at h
      simp only [Heap.sub, hm, if_false] at h
      split at h
      · rename_i b0 hb0
        simp only [Option.some.injEq] at h
        subst h
        have hother : ∀ e g, I.ι m = some e → e.blk = some g → w'.heap[g]? = w.heap[g]? := fun e g h1 h2 => hg.block g (hH.lt m e g h1 h2).1 (fun e3 => hm (hH.inj m n e _ g h1 h0 h2 (by simp [Ent.blk, ← e3])))
        cases b0 with
        | obj cs0 =>
          obtain ⟨b, c, t, k1, k2, k3⟩ := hH.obj m cs0 hb0
          exact ⟨b, c, t, by rw [In.put_ne hm]; exact k1, (hother _ b k1 rfl).trans k2, CR.sub hbut k3⟩
        | row E' s' xs' =>
          obtain ⟨u, cs', k1, k2, k3⟩ := hH.row m E' s' xs' hb0
          exact ⟨u, cs', by rw [In.put_ne hm]; exact k1, ownsRow_same k2 (fun g hg' => hother _ g k1 hg'), Sh.K_keep hkeep k3⟩
        | mp ks vs =>
          obtain ⟨b, es, cl, val, k1, k2, k3, k4⟩ := hH.mp m ks vs hb0
          refine ⟨b, es, cl, val, by rw [In.put_ne hm]; exact k1, (hother _ b k1 rfl).trans k2, k3.map (pick_sub ks vs), fun j d hd => ?_⟩
          rw [pick_sub] at hd
          obtain ⟨d0, h0', rfl⟩ := Option.map_eq_some_iff.1 hd
          exact VR.sub hbut (k4 j d0 h0')
      · cases h
  · by_cases hm : m = n
    · subst hm; rw [Heap.set_same] at h; cases h
    · rw [Heap.set_ne hm] at h
      rw [In.put_ne hm]
      simp only [Heap.sub, hm, if_false] at h
      split at h
      · cases h
      · rename_i hb0
        exact hH.dom m hb0
  · by_cases hm : m = n
    · subst hm
      rw [In.put_same] at h
      simp only [Option.some.injEq] at h
      subst h
      refine ⟨hlt b hb, fun hR => ?_⟩
      rcases hv with hv | hv
      · exact (hH.lt m _ b h0 (by simp only [Ent.blk] at hb ⊢; rw [← hv]; exact hb)).2 hR
      · have := hH.rlt b hR
        simp only [Ent.blk] at hb
        rw [hv] at hb
        simp only [Option.some.injEq] at hb
        omega
    · rw [In.put_ne hm] at h
      obtain ⟨k1, k2⟩ := hH.lt m e b h hb
      exact ⟨Nat.lt_of_lt_of_le k1 hg.size, k2⟩
  · have key : ∀ m e b, m ≠ n → I.ι m = some e → e.blk = some b → v'.ownBlock = some b → False := by
      intro m e b hm h1 h2 h3
      rcases hv with hv | hv
      · exact hm (hH.inj m n e _ b h1 h0 h2 (by simp only [Ent.blk]; rw [← hv]; exact h3))
      · have := (hH.lt m e b h1 h2).1
        rw [hv] at h3
        simp only [Option.some.injEq] at h3
        omega
    by_cases hm : m = n
    · by_cases hm' : m' = n
      · rw [hm, hm']
      · exfalso
        subst hm
        rw [In.put_same] at h
        rw [In.put_ne hm'] at h'
        simp only [Option.some.injEq] at h
        subst h
        exact key m' e' b hm' h' hb' hb
    · by_cases hm' : m' = n
      · exfalso
        subst hm'
        rw [In.put_same] at h'
        rw [In.put_ne hm] at h
        simp only [Option.some.injEq] at h'
        subst h'
        exact key m e b hm h hb hb'
      · rw [In.put_ne hm] at h
        rw [In.put_ne hm'] at h'
        exact hH.inj m m' e e' b h h' hb hb'
  · exact Nat.lt_of_lt_of_le (hH.rlt b h) hg.size
  · by_cases hm : m = n
    · subst hm
      rw [In.put_same] at h
      simp only [Option.some.injEq] at h
      subst h
      rcases hv with hv | hv
      · exact .inl ⟨m, _, h0, by simp only [Ent.blk] at hb ⊢; rw [← hv]; exact hb⟩
      · simp only [Ent.blk] at hb
        rw [hv] at hb
        simp only [Option.some.injEq] at hb
        exact .inr (by omega)
    · rw [In.put_ne hm] at h
      exact .inl ⟨m, e, h, hb⟩
end
end Go.Proofs.Dk

/- An operation that calls nothing, appends nothing. -/
namespace Go.Proofs.Dk
open Go Go.RowKit
set_option linter.unusedVariables false
set_option linter.unusedSimpArgs false
section
variable {P : Program} {I : In} {w w' : World} {T : List DV} {a : Act} {H : Heap} {α : Type}
theorem Done.makes {o : Oper} {v : DV} {s : Sem Value} (hH : HR I w H) (ho : execOp a.eval o = (do Pure.pure (Next.value (← s)))) (h : Makes P I w s v) : Done P o a I w H v none := by
  obtain ⟨u, h1, h2⟩ := h
  exact Done.pure hH (by rw [ho]; exact run_v h1) h2
theorem VR.fn_case {F : Fn} {x y : List DV} {u : Value} (h : VR I w (.fn F x y) u) : ∃ x' y', u = .func F x' y' ∧ LR I w x x'.toList ∧ LR I w y y'.toList := by
  cases h with | fn _ _ _ a' b' h1 h2 => exact ⟨a', b', rfl, h1, h2⟩
theorem LR.mapTo (hT : TR I w T a) (ps : Array Operand) : LR I w (ps.toList.map (evO T)) (ps.map a.eval).toList := by
  rw [Array.toList_map]
  exact LR.map hT _
theorem LR.get : ∀ {ds : List DV} {vs : List Value} {i : Nat} {d : DV}, LR I w ds vs → ds[i]? = some d → ∃ v, vs[i]? = some v ∧ VR I w d v
  | _, _, _, _, .nil, h => by simp at h
  | _, _, 0, _, .cons d r u vs h hr, h1 => by
    simp only [List.getElem?_cons_zero, Option.some.injEq] at h1
    subst h1
    exact ⟨u, rfl, h⟩
  | _, _, i + 1, _, .cons d r u vs h hr, h1 => by
    simp only [List.getElem?_cons_succ] at h1 ⊢
    exact LR.get hr h1
theorem minF_ok {k : IntKind} : ∀ {r : List DV} {vs : List Value} {x : Int} {v : DV}, LR I w r vs → minF k x r = some v → ∃ n, v = .sc (.int k n) ∧ (vs.foldlM Builtin.min2 (.int k x)).run P w = .ok (.int k n) w
  | _, _, x, v, .nil, h => by
    simp only [minF, Option.some.injEq] at h
    exact ⟨x, h.symm, rfl⟩
  | _, _, x, v, .cons d r u vs hd hr, h => by
    simp only [minF] at h
    split at h
    · rename_i k' y
      obtain rfl := hd.sc_eq
      split at h
      · rename_i hk
        subst hk
        obtain ⟨n, h1, h2⟩ := minF_ok hr h
        exact ⟨n, h1, by simp only [List.foldlM_cons, Builtin.min2]; exact h2⟩
      · cases h
    · cases h
theorem maxF_ok {k : IntKind} : ∀ {r : List DV} {vs : List Value} {x : Int} {v : DV}, LR I w r vs → maxF k x r = some v → ∃ n, v = .sc (.int k n) ∧ (vs.foldlM Builtin.max2 (.int k x)).run P w = .ok (.int k n) w
  | _, _, x, v, .nil, h => by
    simp only [maxF, Option.some.injEq] at h
    exact ⟨x, h.symm, rfl⟩
  | _, _, x, v, .cons d r u vs hd hr, h => by
    simp only [maxF] at h
    split at h
    · rename_i k' y
      obtain rfl := hd.sc_eq
      split at h
      · rename_i hk
        subst hk
        obtain ⟨n, h1, h2⟩ := maxF_ok hr h
        exact ⟨n, h1, by simp only [List.foldlM_cons, Builtin.max2]; exact h2⟩
      · cases h
    · cases h
theorem exec_builtin {o : Oper} {c : Call} {b : Builtin} {s : Sem Value} (ho : o.op = .call c) (hc : c.callee = .builtin b) (hb : builtin b c.argTypes o.type (c.args.map fun | .const _ => true | _ => false) (c.args.map a.eval) = (do pure (Next.value (← s)))) : execOp a.eval o = (do pure (Next.value (← s))) := by
  unfold execOp
  rw [ho]
  simp only [resolve, hc]
  exact hb
theorem allocK_ok {d : Nat} {o : Oper} {b : Blk} {v : Nat → DV} {k : DV → Actn → Option α} {r : α} (h : allocK d o H b v k = some r) : ∃ n, H n = none ∧ k (v n) (some (n, b)) = some r := by
  unfold allocK at h
  simp only at h
  split at h
  · cases h
  · rename_i hn
    exact ⟨_, hn, h⟩
theorem opt_case {β : Type} {k : DV → Option β} {x : Option DV} {r : β} (h : (match x with | some x => k x | none => none) = some r) : ∃ y, x = some y ∧ k y = some r := by
  cases x with
  | none => cases h
  | some y => exact ⟨y, rfl, h⟩
theorem hmap (hT : TR I w T a) (x : Option Operand) : (x.map (evO T) = none ∧ x.map a.eval = none) ∨ ∃ d u, x.map (evO T) = some d ∧ x.map a.eval = some u ∧ VR I w d u := by
  cases x with
  | none => exact .inl ⟨rfl, rfl⟩
  | some y => exact .inr ⟨_, _, rfl, rfl, evO_ok hT y⟩
end
section
variable {P : Program} {I : In} {w w' : World} {T : List DV} {a : Act} {H : Heap} {α : Type}
theorem pick_tab : ∀ {ks : List (List Int)} {vs : List DV} {z : DV} {n : Int} {k : DV → Bool → Option α} {r : α}, tabK ks vs z n k = some r → (∃ d, pickD ks vs n = some d ∧ k d true = some r) ∨ (pickD ks vs n = none ∧ k z false = some r)
  | [], vs, z, n, k, r, h => by
    refine .inr ⟨by cases vs <;> rfl, ?_⟩
    cases vs <;> exact h
  | l :: ks, [], z, n, k, r, h => .inr ⟨rfl, h⟩
  | l :: ks, d :: vs, z, n, k, r, h => by
    simp only [tabK] at h
    simp only [pickD]
    split at h
    · rename_i hc
      rw [if_pos hc]
      exact .inl ⟨d, rfl, h⟩
    · rename_i hc
      rw [if_neg hc]
      exact pick_tab h
theorem tabOf_ok {d : DV} {v : Value} {ks : List (List Int)} {vs : List DV} (hH : HR I w H) (hv : VR I w d v) (h : tabOf H d = some (ks, vs)) : ∃ b es clock val, v = .map (some b) ∧ w.heap[b]? = some (.map es clock) ∧ TabE ks vs val es.toList ∧ ∀ m d, pickD ks vs m = some d → VR I w d (val m) := by
  unfold tabOf at h
  split at h
  · simp only [Option.some.injEq, Prod.mk.injEq] at h
    obtain ⟨rfl, rfl⟩ := h
    cases hv with | tab _ _ val b es cl hR hb hE hL => exact ⟨b, es, cl, val, rfl, hb, hE, hL⟩
  · rename_i n
    split at h
    · rename_i ks' vs' hn
      simp only [Option.some.injEq, Prod.mk.injEq] at h
      obtain ⟨rfl, rfl⟩ := h
      cases hv with | mh _ b hi =>
      obtain ⟨b', es, cl, val, k1, k2, k3, k4⟩ := hH.mp n _ _ hn
      rw [hi] at k1
      simp only [Option.some.injEq, Ent.obj.injEq] at k1
      subst k1
      exact ⟨b, es, cl, val, rfl, k2, k3, k4⟩
    · cases h
  · cases h
theorem makeMap_ok {o : Oper} {t : TypeId} {n : Nat} (ho : o.op = .makeMap t none) (hH : HR I w H) (hn : H n = none) : Done P o a I w H (.mh n) (some (n, .mp [] [])) := by
  have he : ∀ b, (Ent.obj w.heap.size).blk = some b → b = w.heap.size := fun b h => by simpa [Ent.blk] using h.symm
  have hr : (execOp a.eval o).run P w = .ok (.value (.map (some w.heap.size))) (w.alloc (.map #[] 0)) := by
    unfold execOp
    rw [ho]
    refine run_v ?_
    simp [Instr.makeMap, Sem.run_bind]
  refine ⟨I.put n (.obj w.heap.size), _, _, hr, Ext.alloc hH hn he, Rows.alloc hH hn _, ?_, ?_⟩
  · refine HR.alloc hH hn he ⟨w.heap.size, #[], 0, fun _ => undef, In.put_same, alloc_new' w _, ⟨fun e h => by simp at h, fun e h => by simp at h, fun m h => by simp [pickD] at h⟩, fun m d h => by simp [pickD] at h⟩
  · exact VR.mh n w.heap.size In.put_same
theorem run_insert {t kt e : TypeId} {b clock : Nat} {es : Array MapEntry} {j : Int} {v : Value} (ht : P.underlying t = some (.map kt e)) (hk : P.underlying kt = some (.int .i64)) (hb : w.heap[b]? = some (.map es clock)) (hkeys : ∀ x ∈ es.toList, ∃ n, x.key = .int .i64 n) (hfr : ∀ x ∈ es.toList, x.key ≠ .int .i64 j) :
    (Instr.mapUpdate t (.map (some b)) (.int .i64 j) v).run P w = .ok () { w with heap := w.heap.setIfInBounds b (.map (es.push { key := .int .i64 j, val := v, born := clock }) (clock + 1)) } := by
  have hK : MapKept.IsKey (.int .i64) (.int .i64 j) := rfl
  have hck := MapKept.run_checkKey (w := w) hk hK false 9999
  rcases MapKept.findNow_spec hK es.toList 0 (fun x hx => by obtain ⟨m, hm⟩ := hkeys x hx; rw [hm]; rfl) with ⟨h1, h2⟩ | ⟨i, e0, h1, h2, h3⟩
  · have hf := MapKept.run_findKey (w := w) hk h1
    simp [Instr.mapUpdate, run_underlying ht, MapKept.run_getObj_map hb, hck, hf, MapKept.run_setObj_map _ hb, Result.andThen]
  · exact absurd h3 (hfr e0 (List.mem_of_getElem? h2))
theorem insert_ok {o : Oper} {t kt e : TypeId} {m i x : Operand} {n : Nat} {j : Int} {ks : List (List Int)} {vs : List DV} {dx : DV} (ho : o.op = .insert t m i x) (hH : HR I w H) (ht : P.underlying t = some (.map kt e)) (hk : P.underlying kt = some (.int .i64)) (hn : H n = some (.mp ks vs)) (hm : VR I w (.mh n) (a.eval m)) (hi : a.eval i = .int .i64 j) (hx : VR I w dx (a.eval x)) (hfr : (pickD ks vs j).isNone = true) :
    Done P o a I w H .undef (some (n, .mp ([j] :: ks) (dx :: vs))) := by
  obtain ⟨b, es, cl, val, k1, k2, k3, k4⟩ := hH.mp n _ _ hn
  generalize hmv : a.eval m = mv at hm
  cases hm with | mh _ b' hb' =>
  rw [k1] at hb'
  simp only [Option.some.injEq, Ent.obj.injEq] at hb'
  subst hb'
  have hno : ∀ x ∈ es.toList, x.key ≠ .int .i64 j := fun x hx hxk => by
    have := (k3.here x hx j hxk).2
    rw [Option.isNone_iff_eq_none] at hfr
    rw [hfr] at this
    cases this
  have hrun := run_insert (v := a.eval x) ht hk k2 k3.keys hno
  have hr : (execOp a.eval o).run P w = .ok .skip { w with heap := w.heap.setIfInBounds b (.map (es.push { key := .int .i64 j, val := a.eval x, born := cl }) (cl + 1)) } := by
    unfold execOp
    rw [ho]
    show ((do Instr.mapUpdate t (a.eval m) (a.eval i) (a.eval x); pure Next.skip) : Sem Next).run P w = _
    rw [hmv, hi]
    simp [Sem.run_bind, hrun]
  obtain ⟨g1, g2⟩ := MapKept.heap_set (o' := .map (es.push { key := .int .i64 j, val := a.eval x, born := cl }) (cl + 1)) k2
  have hbk : (Ent.obj b).blk = some b := rfl
  refine ⟨I, _, _, hr, Ext.write k1 hbk g2 (by simp) rfl rfl rfl, ⟨fun _ _ _ h => h⟩, ?_, rfl⟩
  have hs : Same I I w { w with heap := w.heap.setIfInBounds b (.map (es.push { key := .int .i64 j, val := a.eval x, born := cl }) (cl + 1)) } := Same.write hH k1 hbk g2
  refine HR.write hH k1 hbk g2 (by simp) ⟨b, _, _, fun q => if q = j then a.eval x else val q, k1, g1, ⟨fun e he => ?_, fun e he q hq => ?_, fun q hq => ?_⟩, fun q d hd => ?_⟩
  · simp only [Array.toList_push, List.mem_append, List.mem_singleton] at he
    rcases he with he | rfl
    · exact k3.keys e he
    · exact ⟨j, rfl⟩
  · simp only [Array.toList_push, List.mem_append, List.mem_singleton] at he
    rcases he with he | rfl
    · have hne : q ≠ j := fun h => hno e he (by rw [hq, h])
      obtain ⟨h1, h2⟩ := k3.here e he q hq
      refine ⟨by simp only [hne, if_false]; exact h1, ?_⟩
      simp only [pickD]
      split
      · rfl
      · exact h2
    · simp only [Value.int.injEq, true_and] at hq
      subst hq
      simp [pickD]
  · by_cases hqj : q = j
    · exact ⟨_, by simp only [Array.toList_push, List.mem_append, List.mem_singleton]; exact .inr rfl, by rw [hqj]⟩
    · have hq' : (pickD ks vs q).isSome = true := by simpa [pickD, hqj] using hq
      obtain ⟨e0, h1, h2⟩ := k3.all q hq'
      exact ⟨e0, by simp only [Array.toList_push, List.mem_append]; exact .inl h1, h2⟩
  · by_cases hqj : q = j
    · subst hqj
      simp only [pickD, List.any_cons, List.any_nil, beq_self_eq_true, Bool.or_false, if_true, Option.some.injEq] at hd
      subst hd
      simp only [if_true]
      exact VR.keep hs hx
    · have hq' : pickD ks vs q = some d := by simpa [pickD, hqj] using hd
      simp only [hqj, if_false]
      exact VR.keep hs (k4 q d hq')
theorem run_look {t kt e : TypeId} {b clock : Nat} {es : Array MapEntry} {ks : List (List Int)} {vs : List DV} {val : Int → Value} {n : Int} {c : Bool} {z : Value} (ht : P.underlying t = some (.map kt e)) (hk : P.underlying kt = some (.int .i64)) (hz : (zeroValue e).run P w = .ok z w) (hb : w.heap[b]? = some (.map es clock)) (hE : TabE ks vs val es.toList) :
    ((pickD ks vs n).isSome = true ∧ (Instr.lookup t (.map (some b)) (.int .i64 n) c).run P w = .ok (if c then .tuple #[val n, .bool true] else val n) w) ∨ (pickD ks vs n = none ∧ (Instr.lookup t (.map (some b)) (.int .i64 n) c).run P w = .ok (if c then .tuple #[z, .bool false] else z) w) := by
  have hK : MapKept.IsKey (.int .i64) (.int .i64 n) := rfl
  have hck := MapKept.run_checkKey (w := w) hk hK es.isEmpty 9999
  rcases MapKept.findNow_spec hK es.toList 0 (fun x hx => by obtain ⟨m, hm⟩ := hE.keys x hx; rw [hm]; rfl) with ⟨h1, h2⟩ | ⟨j, e0, h1, h2, h3⟩
  · refine .inr ⟨?_, ?_⟩
    · cases hp : pickD ks vs n with
      | none => rfl
      | some u =>
        obtain ⟨e0, he, hk0⟩ := hE.all n (by rw [hp]; rfl)
        exact absurd hk0 (h2 e0 he)
    · have hf := MapKept.run_findKey (w := w) hk h1
      simp [Instr.lookup, run_underlying ht, MapKept.run_getObj_map hb, hck, hf, hz, Result.andThen]
  · obtain ⟨k1, k2⟩ := hE.here e0 (List.mem_of_getElem? h2) n h3
    refine .inl ⟨k2, ?_⟩
    rw [k1]
    have hf := MapKept.run_findKey (w := w) hk h1
    simp [Instr.lookup, run_underlying ht, MapKept.run_getObj_map hb, hck, hf, Result.andThen]
end
theorem HR.grow {I I' : In} {w w' : World} {H : Heap} (hH : HR I w H) (hι : I'.ι = I.ι) (hR : ∀ b, I'.R b ↔ I.R b ∨ (w.heap.size ≤ b ∧ b < w'.heap.size)) (hw : ∀ b, b < w.heap.size → w'.heap[b]? = w.heap[b]?) (hsz : w.heap.size ≤ w'.heap.size) : HR I' w' H ∧ Same I I' w w' := by
  have hs : Same I I' w w' := ⟨⟨fun b h => (hR b).2 (.inl h), fun b h => hw b (hH.rlt b h)⟩, fun n b h => by rw [hι]; exact h, fun n sz v h => by rw [hι]; exact h⟩
  refine ⟨HR.of (fun n b hb => (hH.br hb).keep hs (fun e g h1 h2 => hw g (hH.lt n e g h1 h2).1)) (fun n h => by rw [hι]; exact hH.dom n h) (fun n e b h1 h2 => ?_) (fun n m e e' b h1 h2 h3 h4 => ?_) (fun b h => ?_), hs⟩
  · rw [hι] at h1
    obtain ⟨k1, k2⟩ := hH.lt n e b h1 h2
    refine ⟨by omega, fun h => ?_⟩
    rcases (hR b).1 h with h | h
    · exact k2 h
    · omega
  · rw [hι] at h1 h2
    exact hH.inj n m e e' b h1 h2 h3 h4
  · rcases (hR b).1 h with h | h
    · have := hH.rlt b h; omega
    · exact h.2
section
variable {α : Type} {P : Program} {I : In} {w : World} {T : List DV} {a : Act} {H : Heap}
theorem arr_bytes {xs : List Int} {news : List Value} (h : (Sh.arr xs.length (.int .u8)).K I.R w xs news) : news = xs.map (Value.int .u8) := by
  obtain ⟨_, h2, h3⟩ := h
  have hl : news.length = xs.length := by simpa [Sh.sz] using h2
  refine List.ext_getElem (by simpa using hl) fun i h1 h4 => ?_
  have hi : i < xs.length := by omega
  have := h3 i xs[i] (List.getElem?_eq_getElem hi)
  simp only [Sh.sz, Nat.mul_one, Sh.K] at this
  have h5 : (news.drop i).take 1 = [news[i]] := by
    rw [List.drop_eq_getElem_cons h1]
    rfl
  rw [h5] at this
  simpa using this
theorem bytes_run {src dst e : TypeId} {A : Option Addr} {c : Nat} {xs : List Int} {news : List Value} (hs : P.underlying src = some (.slice e)) (he : P.underlying e = some (.int .u8)) (hd : P.underlying dst = some .string) (n1 : (Sh.arr xs.length (.int .u8)).K I.R w xs news) (n2 : A = none → xs = []) (n3 : ∀ ad, A = some ad → ∀ j u, news[j]? = some u → w.cell? (ad.add j) = some u) : (convert src dst (.slice A xs.length c)).run P w = .ok (.string (strNums xs)) w := by
  cases A with
  | none =>
    have := n2 rfl
    subst this
    exact run_convert_bytes_nil w src e hs he 0 c dst hd
  | some ad =>
    have hn := arr_bytes n1
    subst hn
    have hl : (loadCells ad xs.length).run P w = .ok (xs.map (Value.int .u8)).toArray w := by
      have := run_loadCells_list (P := P) w ad (xs.map (Value.int .u8)) (fun j v hj => n3 ad rfl j v hj)
      simpa using this
    rw [run_convert_bytes_string w src dst e _ _ c hs he hd, run_bytesToString w _ _ c xs hl, foldl_push_bytes]
    simp [strNums, ByteArray.empty, ByteArray.emptyWithCapacity]
    rfl
theorem nums_ok {o : Oper} {src dst e : TypeId} {s : ByteArray} {x : Operand} (hH : HR I w H) (ho : execOp a.eval o = (do Pure.pure (Next.value (← convert src dst (a.eval x))))) (hv : a.eval x = .string s) (hs : P.underlying src = some .string) (hd : P.underlying dst = some (.slice e)) (he : P.underlying e = some (.int .u8)) : Done P o a I w H (.vs (.int .u8) (numsStr s)) none := by
  have hr := run_bytes_of_string (P := P) w src dst e s hs hd he
  generalize hcap : grownCap w s.size 0 e = cap at hr
  have hge : s.size ≤ cap := by rw [← hcap]; exact grownCap_ge w s.size 0 e
  generalize hob : Obj.cells (bytesRow s cap) e ((bytesRow s cap).size, (bytesRow s cap).size + 1) = ob at hr
  have hsz : (w.drew.alloc ob).heap.size = w.heap.size + 1 := by
    show (w.heap.push ob).size = _
    simp
  have hold : ∀ b, b < w.heap.size → (w.drew.alloc ob).heap[b]? = w.heap[b]? := fun b hb => by
    show (w.heap.push ob)[b]? = _
    rw [Array.getElem?_push_lt hb, Array.getElem?_eq_getElem hb]
  obtain ⟨q1, q2⟩ := hH.grow (I' := ⟨I.ι, fun b => I.R b ∨ (w.heap.size ≤ b ∧ b < (w.drew.alloc ob).heap.size)⟩) (w' := w.drew.alloc ob) rfl (fun b => Iff.rfl) hold (by omega)
  refine ⟨⟨I.ι, fun b => I.R b ∨ (w.heap.size ≤ b ∧ b < (w.drew.alloc ob).heap.size)⟩, w.drew.alloc ob, .value (.slice (some ⟨w.heap.size, 0, none⟩) s.size cap), ?_, ⟨fun n b h => h, fun b h => .inl h, fun b hb _ => hold b hb, fun n e b h hb => .inl ⟨n, e, h, hb⟩, fun b h => ?_, by omega, rfl, rfl, rfl⟩, ⟨fun n sz v h => h⟩, q1, ?_⟩
  · rw [ho, hv]
    exact run_v hr
  · rcases h with h | h
    · exact .inl h
    · exact .inr (.inr h.1)
  · have hlen : (numsStr s).length = s.size := by
      show (s.data.toList.map _).length = s.data.size
      rw [List.length_map, Array.length_toList]
    refine .vs _ _ _ ⟨some ⟨w.heap.size, 0, none⟩, cap, by rw [hlen], by omega, fun _ => ⟨_, rfl, rfl, .inr ⟨Nat.le_refl _, (by show w.heap.size < (w.drew.alloc ob).heap.size; omega)⟩, fun i y hy => ?_⟩⟩
    refine ⟨[.int .u8 y], rfl, rfl, fun j u hu => ?_⟩
    have hi : i < s.data.size := by
      have := (List.getElem?_eq_some_iff.1 hy).1
      rw [hlen] at this
      exact this
    have hj : j = 0 := by
      have := (List.getElem?_eq_some_iff.1 hu).1
      simp at this
      omega
    subst hj
    simp only [List.getElem?_cons_zero, Option.some.injEq] at hu
    subst hu
    have hy2 : y = (s.data[i].toNat : Int) := by
      have := (List.getElem?_eq_some_iff.1 hy).2
      simp [numsStr] at this
      exact this.symm
    have ha : Addr.add ⟨w.heap.size, 0, none⟩ (i * Sh.sz (.int .u8) + 0) = ⟨w.heap.size, i, none⟩ := by
      unfold Addr.add
      split <;> simp_all [Sh.sz]
    rw [ha, ← hob]
    have := World.cell?_alloc_mark w.drew (bytesRow s cap) e ((bytesRow s cap).size, (bytesRow s cap).size + 1) i
    rw [show w.drew.heap.size = w.heap.size from rfl] at this
    rw [this, bytesRow_at s cap i hi, hy2]
theorem opE_ok {d : Nat} {o : Oper} {k : DV → Actn → Option α} {r : α} (hT : TR I w T a) (hH : HR I w H) (h : opE P d o T H k = some r) : ∃ v act, k v act = some r ∧ Done P o a I w H v act := by
  unfold opE at h
  simp only at h
  split at h
  · rename_i x ho
    exact ⟨_, _, h, Done.pure hH (exec_move ho) (evO_ok hT x)⟩
  · rename_i x ho
    exact ⟨_, _, h, Done.pure hH (exec_assign ho) (evO_ok hT x)⟩
  · rename_i c x y ho
    obtain ⟨v, h1, h2⟩ := pickK_ok (P := P) (evO_ok hT c) (evO_ok hT x) (evO_ok hT y) h
    refine ⟨_, _, h1, ?_⟩
    obtain ⟨u, g1, g2⟩ := h2
    refine Done.pure hH ?_ g2
    unfold execOp
    rw [ho]
    simp only [Sem.run_bind] at g1 ⊢
    cases hb : (asBool (a.eval c)).run P w <;> rw [hb] at g1 <;> simp_all
  · rename_i e ho
    split at h
    · rename_i its hz
      obtain ⟨n, hn, h1⟩ := allocK_ok h
      exact ⟨_, _, h1, alloc_ok ho hH hn hz⟩
    · cases h
  · rename_i e x ho
    split at h
    · rename_i its hz
      split at h
      · rename_i hs
        obtain ⟨n, hn, h1⟩ := allocK_ok h
        exact ⟨_, _, h1, box_ok ho hT hH hn hs hz⟩
      · cases h
    · cases h
  · rename_i t ps ho
    split at h
    · rename_i its hz
      split at hz
      · rename_i hne
        split at h
        · rename_i out hf
          exact ⟨_, _, h, build_ok ho hT hH hne hz hf⟩
        · cases h
      · cases hz
    · cases h
  · rename_i t n ps ho
    split at h
    · rename_i e hu
      split at h
      · rename_i s hsh
        split at h
        · rename_i hi
          split at h
          · rename_i hs
            split at h
            · rename_i xs hx
              split at h
              · rename_i h1
                split at h
                · rename_i h2
                  simp only [Bool.and_eq_true, Bool.or_eq_true, decide_eq_true_eq, beq_iff_eq] at h2
                  obtain ⟨m, hn, h3⟩ := allocK_ok h
                  exact ⟨_, _, h3, buildSlice_ok ho hT hH hn hu hi hs hx h1 h2.1 h2.2⟩
                · cases h
              · cases h
            · cases h
          · cases h
        · cases h
      · cases h
    · cases h
  · rename_i t x ho
    obtain ⟨v, h1, h2⟩ := opt_case h
    exact ⟨_, _, h2, load_ok ho hT hH h1⟩
  · rename_i t x y ho
    split at h
    · rename_i q hq
      exact ⟨_, _, h, store_ok ho hT hH hq⟩
    · cases h
  · rename_i x ho
    have hx := evO_ok hT x
    generalize hd : evO T x = dx at h hx
    generalize hv : a.eval x = u at hx
    have he : ∀ {v : Value}, u = v → (match v with | .pointer (some _) => True | .func (.func _) _ _ => True | _ => False) → (execOp a.eval o).run P w = .ok (.value v) w := by
      rintro v rfl hm
      unfold execOp
      rw [ho]
      simp only [hv]
      cases u with
      | pointer q => cases q with
        | none => exact hm.elim
        | some q => rfl
      | func F x y => cases F with
        | func f => rfl
        | _ => exact hm.elim
      | _ => exact hm.elim
    split at h
    · refine ⟨_, _, h, ?_⟩
      cases hx with | ptr _ _ _ b h1 hp => exact Done.pure hH (he rfl trivial) (.ptr _ _ _ b h1 hp)
    · refine ⟨_, _, h, ?_⟩
      cases hx with | rp _ _ _ _ b len cap h1 hi hp => exact Done.pure hH (he rfl trivial) (.rp _ _ _ _ b len cap h1 hi hp)
    · refine ⟨_, _, h, ?_⟩
      cases hx with | pi _ ad cs h0 hR him hC hc => exact Done.pure hH (he rfl trivial) (.pi _ ad cs h0 hR him hC hc)
    · refine ⟨_, _, h, ?_⟩
      cases hx with | fn F q1 q2 a' b' h1 h2 => exact Done.pure hH (he rfl trivial) (.fn _ _ _ a' b' h1 h2)
    · cases h
  · rename_i op t x y sp ho
    obtain ⟨v, h1, h2⟩ := binK_ok (P := P) (x := x) (y := y) (evO_ok hT x) (evO_ok hT y) h
    exact ⟨_, _, h1, Done.makes hH (by unfold execOp; rw [ho]) h2⟩
  · rename_i op t x ho
    have hx := evO_ok hT x
    generalize hd : evO T x = dx at h hx
    generalize hv : a.eval x = u at hx
    split at h
    · obtain rfl := hx.sc_eq
      exact ⟨_, _, h, Done.makes hH (by unfold execOp; rw [ho]) ⟨_, by rw [hv]; rfl, .sc _ rfl⟩⟩
    · obtain rfl := hx.sc_eq
      exact ⟨_, _, h, Done.makes hH (by unfold execOp; rw [ho]) ⟨_, by rw [hv]; rfl, .sc _ rfl⟩⟩
    · cases h
  · rename_i s t x ho
    have hx := evO_ok hT x
    generalize hd : evO T x = dx at h hx
    generalize hv : a.eval x = u at hx
    split at h
    · rename_i hs ht
      obtain rfl := hx.sc_eq
      exact ⟨_, _, h, Done.makes hH (by unfold execOp; rw [ho]) ⟨_, by rw [hv]; simp [convert, run_underlying hs, run_underlying ht, Conv.intToInt], .sc _ rfl⟩⟩
    · rename_i hs ht
      obtain rfl := hx.sc_eq
      exact ⟨_, _, h, Done.makes hH (by unfold execOp; rw [ho]) ⟨_, by rw [hv]; simp [convert, run_underlying hs, run_underlying ht], .sc _ rfl⟩⟩
    · rename_i e hs ht
      split at h
      · rename_i he
        split at h
        · rename_i xs hxs
          obtain ⟨A, c, rfl, news, n1, n2, n3⟩ := elems_ok hH hx hxs
          refine ⟨_, _, h, Done.makes hH (by unfold execOp; rw [ho]) ⟨.string (strNums xs), ?_, .sc _ rfl⟩⟩
          rw [hv]
          exact bytes_run hs he ht n1 n2 n3
        · cases h
      · cases h
    · rename_i e s hs ht
      split at h
      · rename_i he
        obtain rfl := hx.sc_eq
        exact ⟨_, _, h, nums_ok hH (by unfold execOp; rw [ho]) (by rw [hv]) hs ht he⟩
      · cases h
    · cases h
  · rename_i F q1 q2 ho
    exact ⟨_, _, h, Done.makes hH (by unfold execOp; rw [ho]) ⟨_, rfl, .fn _ _ _ _ _ (LR.mapTo hT q1) (LR.mapTo hT q2)⟩⟩
  · rename_i t l c ho
    split at h
    · rename_i e hu
      split at h
      · rename_i s n m hsh hl hc
        split at h
        · rename_i h1
          split at h
          · rename_i hz
            obtain ⟨q, hn, h3⟩ := allocK_ok h
            exact ⟨_, _, h3, makeSlice_ok ho hT hH hn hu hl hc h1 hz⟩
          · cases h
        · cases h
      · cases h
    · cases h
  · rename_i t x lo hi mx ho
    obtain ⟨v, h1, h2⟩ := sliceK_ok (P := P) (mx' := mx.map a.eval) hH (evO_ok hT x) (hmap hT lo) (hmap hT hi) (fun e => by cases mx <;> simp_all) h
    exact ⟨_, _, h1, Done.makes hH (by unfold execOp; rw [ho]) h2⟩
  · rename_i t x f ho
    obtain ⟨v, h1, h2⟩ := opt_case h
    exact ⟨_, _, h2, Done.makes hH (by unfold execOp; rw [ho]) (fieldAddrD_ok (evO_ok hT x) h1)⟩
  · rename_i t x f ho
    obtain ⟨v, h1, h2⟩ := opt_case h
    exact ⟨_, _, h2, Done.makes hH (by unfold execOp; rw [ho]) (fieldD_ok (evO_ok hT x) h1)⟩
  · rename_i t x i ho
    have hi := evO_ok hT i
    split at h
    · rename_i kd j hj
      rw [hj] at hi
      obtain ⟨v, h1, h2⟩ := idxAddrK_ok (P := P) (kd := kd) hH (evO_ok hT x) h
      exact ⟨_, _, h1, Done.makes hH (by unfold execOp; rw [ho]) (hi.sc_eq ▸ h2)⟩
    · cases h
  · rename_i t x i ho
    have hi := evO_ok hT i
    split at h
    · rename_i kd j hj
      rw [hj] at hi
      obtain ⟨v, h1, h2⟩ := indexK_ok (P := P) (kd := kd) (evO_ok hT x) h
      exact ⟨_, _, h1, Done.makes hH (by unfold execOp; rw [ho]) (hi.sc_eq ▸ h2)⟩
    · cases h
  · rename_i t ho
    split at h
    · rename_i kt e ht
      obtain ⟨n, h1, h2⟩ := allocK_ok h
      exact ⟨_, _, h2, makeMap_ok ho hH h1⟩
    · cases h
  · rename_i t m i x ho
    have hm := evO_ok hT m
    have hi := evO_ok hT i
    split at h
    · rename_i kt e n j ht hmd hid
      split at h
      · rename_i ks vs hk hn
        split at h
        · rename_i hfr
          rw [hid] at hi
          rw [hmd] at hm
          exact ⟨_, _, h, insert_ok ho hH ht hk hn hm hi.sc_eq (evO_ok hT x) hfr⟩
        · cases h
      · cases h
    · cases h
  · rename_i t x i c ho
    have hx := evO_ok hT x
    have hi := evO_ok hT i
    split at h
    · rename_i kt e ks vs n ht hxd hid
      split at h
      · rename_i it hk hit
        split at h
        · rename_i z hz
          rw [hid] at hi
          obtain ⟨b, es, cl, us, hv, hb, hE, hL⟩ := tabOf_ok hH hx hxd
          have hz' : (zeroValue e).run P w = .ok z w := by simp [zeroValue, typeInfo, Sem.run_bind, hit, hz]
          rcases run_look (c := c) (n := n) ht hk hz' hb hE with ⟨g1, g2⟩ | ⟨g1, g2⟩
          · rcases pick_tab h with ⟨d, k1, k3⟩ | ⟨k1, k3⟩
            · have k2 := hL n d k1
              refine ⟨_, _, k3, Done.makes hH (by unfold execOp; rw [ho]) ⟨_, by rw [hv, hi.sc_eq]; exact g2, ?_⟩⟩
              cases c
              · exact k2
              · exact .tup _ _ (.cons _ _ _ _ k2 (.cons _ _ _ _ (.sc _ rfl) .nil))
            · rw [k1] at g1; cases g1
          · rcases pick_tab h with ⟨d, k1, k3⟩ | ⟨k1, k3⟩
            · rw [g1] at k1; cases k1
            · refine ⟨_, _, k3, Done.makes hH (by unfold execOp; rw [ho]) ⟨_, by rw [hv, hi.sc_eq]; exact g2, ?_⟩⟩
              cases c
              · exact ofV_ok z
              · exact .tup _ _ (.cons _ _ _ _ (ofV_ok z) (.cons _ _ _ _ (.sc _ rfl) .nil))
        · cases h
      · cases h
    · cases h
  · rename_i x i ho
    have hx := evO_ok hT x
    generalize hd : evO T x = dx at h hx
    generalize hv : a.eval x = u at hx
    split at h
    · rename_i vs
      obtain ⟨v, h1, h2⟩ := opt_case h
      cases hx with | tup _ vs' hL =>
      obtain ⟨u, g1, g2⟩ := hL.get h1
      refine ⟨_, _, h2, Done.makes hH (by unfold execOp; rw [ho]) ⟨u, ?_, g2⟩⟩
      rw [Array.getElem?_toList] at g1
      simp [Instr.extract, hv, g1]
    · cases h
  · rename_i c ho
    split at h
    · rename_i hc
      split at h
      · rename_i x t hx ht
        split at h
        · rename_i n hn
          refine ⟨_, _, h, Done.makes hH (exec_builtin (b := .len) (s := Builtin.len_ c.argTypes o.type (c.args.map a.eval)) ho hc rfl) ⟨_, ?_, .sc _ rfl⟩⟩
          have e1 : c.args.map a.eval = #[a.eval x] := by
            apply Array.toList_inj.1
            rw [Array.toList_map, hx]; rfl
          have := lenD_ok (ty := o.type) hH (evO_ok hT x) hn
          rw [e1]
          have e2 : ∀ (A : Array TypeId), A[0]? = some t → Builtin.len_ A o.type #[a.eval x] = Builtin.len_ #[t] o.type #[a.eval x] := by
            intro A hA
            unfold Builtin.len_
            have : A.getD 0 0 = t := by simp [hA]
            simp [hA]
          rw [e2 _ ht]
          exact this
        · cases h
      · cases h
    · rename_i hc
      split at h
      · rename_i kk x rr hx
        obtain ⟨v, h1, h2⟩ := opt_case h
        have hL := LR.mapTo hT c.args
        rw [hx] at hL
        generalize hA : (c.args.map a.eval).toList = vs at hL
        cases hL with | cons _ _ u vs' hd hr =>
        obtain rfl := hd.sc_eq
        obtain ⟨n, rfl, g2⟩ := minF_ok (P := P) hr h1
        refine ⟨_, _, h2, Done.makes hH (exec_builtin (b := .min) (s := Builtin.min_ c.argTypes o.type (c.args.map a.eval)) ho hc rfl) ⟨_, ?_, .sc _ rfl⟩⟩
        unfold Builtin.min_
        rw [hA]
        exact g2
      · cases h
    · rename_i hc
      split at h
      · rename_i kk x rr hx
        obtain ⟨v, h1, h2⟩ := opt_case h
        have hL := LR.mapTo hT c.args
        rw [hx] at hL
        generalize hA : (c.args.map a.eval).toList = vs at hL
        cases hL with | cons _ _ u vs' hd hr =>
        obtain rfl := hd.sc_eq
        obtain ⟨n, rfl, g2⟩ := maxF_ok (P := P) hr h1
        refine ⟨_, _, h2, Done.makes hH (exec_builtin (b := .max) (s := Builtin.max_ c.argTypes o.type (c.args.map a.eval)) ho hc rfl) ⟨_, ?_, .sc _ rfl⟩⟩
        unfold Builtin.max_
        rw [hA]
        exact g2
      · cases h
    · cases h
  · cases h
end
end Go.Proofs.Dk

/- Rows that are read alone from here on; appends; any operation that calls nothing. -/
namespace Go.Proofs.Dk
open Go Go.RowKit
set_option linter.unusedVariables false
set_option linter.unusedSimpArgs false
section
variable {P : Program} {I I' : In} {w w' : World} {T : List DV} {a : Act} {H : Heap} {α : Type}
theorem subL_map (n : Nat) (g : Sub) : ∀ l : List DV, subL n g l = l.map (DV.sub n g)
  | [] => rfl
  | d :: r => by simp [subL, subL_map n g r]
theorem subL_getD (n : Nat) (g : Sub) (l : List DV) (i : Nat) : (subL n g l).getD i .undef = (l.getD i .undef).sub n g := by
  rw [subL_map]
  simp only [List.getD_eq_getElem?_getD, List.getElem?_map]
  cases l[i]? <;> rfl
theorem bareL_map : ∀ l : List DV, bareL l = l.map DV.bare
  | [] => rfl
  | d :: r => by simp [bareL, bareL_map r]
theorem bareL_getD (l : List DV) (i : Nat) : (bareL l).getD i .undef = (l.getD i .undef).bare := by
  rw [bareL_map]
  simp only [List.getD_eq_getElem?_getD, List.getElem?_map]
  cases l[i]? <;> rfl
theorem TR.keep (hs : Same I I' w w') (hT : TR I w T a) : TR I' w' T a := ⟨hT.len, fun i => VR.keep hs (hT.val i), hT.df⟩
theorem TR.sub {n : Nat} {g : Sub} (hs : But n g I I' w w') (hT : TR I w T a) : TR I' w' (subL n g T) a :=
  ⟨by rw [subL_map, List.length_map]; exact hT.len, fun i => by rw [subL_getD]; exact VR.sub hs (hT.val i), hT.df⟩
theorem TR.bare (hs : ObjS I I' w w') (hT : TR I w T a) : TR I' w' (bareL T) a :=
  ⟨by rw [bareL_map, List.length_map]; exact hT.len, fun i => by rw [bareL_getD]; exact VR.bare hs (hT.val i), hT.df⟩
theorem freeze {n : Nat} {E : TypeId} {s : Sh} {xs : List s.T} (hH : HR I w H) (h : H n = some (.row E s xs)) : ∃ I', HR I' w (H.sub n (.vs s xs)) ∧ Ext I w I' w ∧ But n (.vs s xs) I I' w w := by
  obtain ⟨v, cs, h1, h2, h3⟩ := hH.row n E s xs h
  have hb : But n (.vs s xs) I ⟨fun m => if m = n then none else I.ι m, fun b => I.R b ∨ v.ownBlock = some b⟩ w w := by
    refine ⟨⟨fun b h => .inl h, fun _ _ => rfl⟩, fun m b hm => ?_, fun m sz u hm h => ?_, ?_⟩
    · show (if m = n then none else I.ι m) = _
      rw [if_neg]
      · exact hm
      · rintro rfl; rw [h1] at hm; cases hm
    · show (if m = n then none else I.ι m) = _
      rw [if_neg hm]
      exact h
    · intro s' xs' e sz u hu
      rw [h1] at hu
      simp only [Option.some.injEq, Ent.row.injEq] at hu
      obtain ⟨rfl, rfl⟩ := hu
      cases e
      refine ⟨rfl, ?_⟩
      rcases h2.2 with ⟨rfl, h0⟩ | ⟨g, cap, cur, rfl, _, hh, hc, _⟩
      · have : xs = [] := List.eq_nil_of_length_eq_zero h0
        subst this
        exact ⟨none, 0, rfl, Nat.le_refl _, fun h => absurd rfl h⟩
      · obtain ⟨_, _, cs', k1, k2, k3⟩ := row_cells hH h h1
        refine ⟨_, cap, rfl, hc, fun hne => ⟨_, rfl, rfl, .inr rfl, fun i x hx => ?_⟩⟩
        have hi := (List.getElem?_eq_some_iff.1 hx).1
        have hk := k1.2.2 i x hx
        have hl : i * s.sz + s.sz ≤ xs.length * s.sz := by rw [← Nat.succ_mul]; exact Nat.mul_le_mul_right _ hi
        refine ⟨_, Sh.K_len hk, Sh.K_keep ⟨fun b h => .inl h, fun _ _ => rfl⟩ hk, fun j u hu => ?_⟩
        rw [Addr.add_mid, Nat.zero_add]
        refine k3 _ u ?_
        rw [List.getElem?_take] at hu
        split at hu
        · rw [List.getElem?_drop] at hu
          exact hu
        · cases hu
  refine ⟨_, HR.of (fun m b hm => ?_) (fun m hm => ?_) (fun m e b hm he => ?_) (fun m m' e e' b hm hm' he he' => ?_) (fun b hR => ?_), ⟨hb.obj, fun b h => .inl h, fun _ _ _ => rfl, fun m e b hm he => ?_, fun b hR => ?_, Nat.le_refl _, rfl, rfl, rfl⟩, hb⟩
  · simp only [Heap.sub] at hm
    split at hm
    · cases hm
    · rename_i hmn
      split at hm
      · rename_i b0 hb0
        simp only [Option.some.injEq] at hm
        subst hm
        cases b0 with
        | obj cs0 =>
          obtain ⟨b, c, t, k1, k2, k3⟩ := hH.obj m cs0 hb0
          exact ⟨b, c, t, hb.obj _ _ k1, k2, CR.sub hb k3⟩
        | row E' s' xs' =>
          obtain ⟨u, cs', k1, k2, k3⟩ := hH.row m E' s' xs' hb0
          exact ⟨u, cs', hb.row _ _ _ hmn k1, k2, Sh.K_keep hb.keeps k3⟩
        | mp ks vs => exact MR.sub hb (hH.mp m ks vs hb0) (fun _ _ => rfl)
      · cases hm
  · show (if m = n then none else I.ι m) = none
    split
    · rfl
    · rename_i hmn
      simp only [Heap.sub, hmn, if_false] at hm
      split at hm
      · cases hm
      · rename_i hb0
        exact hH.dom m hb0
  · dsimp only at hm
    split at hm
    · cases hm
    · rename_i hmn
      obtain ⟨k1, k2⟩ := hH.lt m e b hm he
      refine ⟨k1, ?_⟩
      rintro (hR | hR)
      · exact k2 hR
      · exact hmn (hH.inj m n e _ b hm h1 he hR)
  · dsimp only at hm hm'
    split at hm
    · cases hm
    · split at hm'
      · cases hm'
      · exact hH.inj m m' e e' b hm hm' he he'
  · rcases hR with hR | hR
    · exact hH.rlt b hR
    · exact (hH.lt n _ b h1 hR).1
  · dsimp only at hm
    split at hm
    · cases hm
    · exact .inl ⟨m, e, hm, he⟩
  · rcases hR with hR | hR
    · exact .inl hR
    · exact .inr (.inl ⟨n, _, h1, hR⟩)
theorem solid_ok : ∀ {r : List Nat} {I : In} {H : Heap} {A T : List DV} {vs : List Value} {A' T' : List DV} {H' : Heap}, HR I w H → TR I w T a → LR I w A vs → solid r A T H = (A', T', H') → ∃ I', HR I' w H' ∧ Ext I w I' w ∧ TR I' w T' a ∧ LR I' w A' vs
  | [], I, H, A, T, vs, A', T', H', hH, hT, hA, h => by
    simp only [solid, Prod.mk.injEq] at h
    obtain ⟨rfl, rfl, rfl⟩ := h
    exact ⟨I, hH, Ext.refl I w, hT, hA⟩
  | n :: r, I, H, A, T, vs, A', T', H', hH, hT, hA, h => by
    simp only [solid] at h
    split at h
    · rename_i E s xs hn
      obtain ⟨I1, g1, g2, g3⟩ := freeze hH hn
      obtain ⟨I2, k1, k2, k3, k4⟩ := solid_ok g1 (TR.sub g3 hT) (LR.sub g3 hA) h
      exact ⟨I2, k1, g2.trans k2, k3, k4⟩
    · exact solid_ok hH hT hA h
def Goes (P : Program) (o : Oper) (a : Act) (I : In) (w : World) (T' : List DV) (H' : Heap) : Prop :=
  ∃ I' w' n u, (execOp a.eval o).run P w = .ok n w' ∧ Ext I w I' w' ∧ HR I' w' H' ∧ TR I' w' T' (a.put o.dst u) ∧ (n = .value u ∨ n = .skip ∧ u = undef)
theorem Done.same {o : Oper} {v : DV} {act : Actn} (hH : HR I w H) (h : Ext I w I' w') (hr : Rows I I') : Same I I' w w' := ⟨h.keeps hH, h.obj, hr.row⟩
theorem Done.goes {o : Oper} {v : DV} {act : Actn} (hT : TR I w T a) (hH : HR I w H) (h : Done P o a I w H v act) : Goes P o a I w (putT T o.dst v) (H.act act) := by
  obtain ⟨I', w', n, h1, h2, h3, h4, h5⟩ := h
  have hs : Same I I' w w' := ⟨h2.keeps hH, h2.obj, h3.row⟩
  cases n with
  | value u => exact ⟨I', w', _, u, h1, h2, h4, (hT.keep hs).put _ h5, .inl rfl⟩
  | skip =>
    have : v = .undef := h5
    subst this
    exact ⟨I', w', _, undef, h1, h2, h4, (hT.keep hs).put _ (.undef _), .inr ⟨rfl, rfl⟩⟩
  | _ => exact h5.elim
theorem Goes.ext {o : Oper} {I1 : In} {T' : List DV} {H' : Heap} (h : Ext I w I1 w) (hg : Goes P o a I1 w T' H') : Goes P o a I w T' H' := by
  obtain ⟨I', w', n, u, h1, h2, h3⟩ := hg
  exact ⟨I', w', n, u, h1, h.trans h2, h3⟩
theorem turnNew {n : Nat} {v' : Value} {E : TypeId} {s : Sh} {xs : List s.T} {cs : List Value} (hH : HR I w H) (hn : H n = none) (hg : w.grownBy w' none) (hv : v'.ownBlock = none ∨ v'.ownBlock = some w.heap.size) (hown : w'.ownsRow 0 E s.sz v' xs.length cs) (hk : (Sh.arr xs.length s).K I.R w xs cs) :
    HR (I.put n (.row s.sz v')) w' (H.set n (some (.row E s xs))) ∧ Ext I w (I.put n (.row s.sz v')) w' ∧ Same I (I.put n (.row s.sz v')) w w' := by
  have h0 := hH.dom n hn
  have hblk : ∀ b, b < w.heap.size → w'.heap[b]? = w.heap[b]? := fun b hb => hg.block b hb (by simp)
  have hlt : ∀ b, v'.ownBlock = some b → b = w.heap.size ∧ b < w'.heap.size := by
    intro b hb
    refine ⟨by rcases hv with hv | hv <;> rw [hv] at hb <;> simp_all, ?_⟩
    rcases hown.2 with ⟨rfl, _⟩ | ⟨g, cap, cur, rfl, _, hh, _⟩
    · cases hb
    · simp only [Value.ownBlock, Option.some.injEq] at hb
      subst hb
      exact (Array.getElem?_eq_some_iff.1 hh).1
  have hs : Same I (I.put n (.row s.sz v')) w w' := by
    refine ⟨⟨fun _ h => h, fun b hb => hblk b (hH.rlt b hb)⟩, fun m b h => ?_, fun m sz u h => ?_⟩
    · rw [In.put_ne]
      · exact h
      · rintro rfl; rw [h0] at h; cases h
    · rw [In.put_ne]
      · exact h
      · rintro rfl; rw [h0] at h; cases h
  refine ⟨HR.of (fun m b h => ?_) (fun m h => ?_) (fun m e b h hb => ?_) (fun m m' e e' b h h' hb hb' => ?_) (fun b h => ?_), ⟨hs.obj, fun _ h => h, fun b hb _ => hblk b hb, fun m e b h hb => ?_, fun b h => .inl h, hg.size, hg.os, hg.tape, hg.output⟩, hs⟩
  · by_cases hm : m = n
    · subst hm
      rw [Heap.set_same] at h
      simp only [Option.some.injEq] at h
      subst h
      exact ⟨v', cs, In.put_same, hown, Sh.K_keep hs.keeps hk⟩
    · rw [Heap.set_ne hm] at h
      exact (hH.br h).keep hs (fun e g h1 h2 => hblk g (hH.lt m e g h1 h2).1)
  · by_cases hm : m = n
    · subst hm; rw [Heap.set_same] at h; cases h
    · rw [Heap.set_ne hm] at h
      rw [In.put_ne hm]
      exact hH.dom m h
  · by_cases hm : m = n
    · subst hm
      rw [In.put_same] at h
      simp only [Option.some.injEq] at h
      subst h
      obtain ⟨k1, k2⟩ := hlt b hb
      exact ⟨k2, fun hR => by have := hH.rlt b hR; omega⟩
    · rw [In.put_ne hm] at h
      obtain ⟨k1, k2⟩ := hH.lt m e b h hb
      exact ⟨Nat.lt_of_lt_of_le k1 hg.size, k2⟩
  · by_cases hm : m = n
    · by_cases hm' : m' = n
      · rw [hm, hm']
      · exfalso
        subst hm
        rw [In.put_same] at h
        rw [In.put_ne hm'] at h'
        simp only [Option.some.injEq] at h
        subst h
        have := (hlt b hb).1
        have := (hH.lt m' e' b h' hb').1
        omega
    · by_cases hm' : m' = n
      · exfalso
        subst hm'
        rw [In.put_same] at h'
        rw [In.put_ne hm] at h
        simp only [Option.some.injEq] at h'
        subst h'
        have := (hlt b hb').1
        have := (hH.lt m e b h hb).1
        omega
      · rw [In.put_ne hm] at h
        rw [In.put_ne hm'] at h'
        exact hH.inj m m' e e' b h h' hb hb'
  · exact Nat.lt_of_lt_of_le (hH.rlt b h) hg.size
  · by_cases hm : m = n
    · subst hm
      rw [In.put_same] at h
      simp only [Option.some.injEq] at h
      subst h
      exact .inr (by have := (hlt b hb).1; omega)
    · rw [In.put_ne hm] at h
      exact .inl ⟨m, e, h, hb⟩
theorem ownsRow_take {E : TypeId} {sz n l cap : Nat} {b : Nat} {cs : List Value} (h : w.ownsRow 0 E sz (.slice (some ⟨b, 0, none⟩) n cap) n cs) (hl : l ≤ n) : w.ownsRow 0 E sz (.slice (some ⟨b, 0, none⟩) l cap) l (cs.take (l * sz)) := by
  have hle : l * sz ≤ n * sz := Nat.mul_le_mul_right _ hl
  refine ⟨by rw [List.length_take, h.1]; omega, ?_⟩
  rcases h.2 with ⟨e, _⟩ | ⟨g, cap', cur, e, h1, h2, h3, h4, h5, h6⟩
  · cases e
  · simp only [Value.slice.injEq, Option.some.injEq, Addr.mk.injEq, and_true] at e
    obtain ⟨rfl, _, rfl⟩ := e
    refine .inr ⟨b, cap, cur, rfl, h1, h2, by omega, h4, h5, ?_⟩
    rw [← h6, List.take_take]
    congr 1
    omega
theorem K_arr_take {R : Nat → Prop} {s : Sh} {n l : Nat} {xs : List s.T} {cs : List Value} (h : (Sh.arr n s).K R w xs cs) (hl : l ≤ n) : (Sh.arr (xs.take l).length s).K R w (xs.take l) (cs.take (l * s.sz)) := by
  have hle : l * s.sz ≤ n * s.sz := Nat.mul_le_mul_right _ hl
  have h1 := h.1
  have h2 := h.2.1
  refine ⟨rfl, by simp only [List.length_take]; rw [h1, h2, Nat.min_eq_left hl, Nat.min_eq_left hle], fun i x hx => ?_⟩
  rw [List.getElem?_take] at hx
  split at hx
  · rename_i hil
    have h3 := h.2.2 i x hx
    have : i * s.sz + s.sz ≤ l * s.sz := by rw [← Nat.succ_mul]; exact Nat.mul_le_mul_right _ hil
    rw [List.drop_take, List.take_take]
    have e : min s.sz (l * s.sz - i * s.sz) = s.sz := by omega
    rw [e]
    exact h3
  · cases hx
theorem K_arr_nil {R : Nat → Prop} (s : Sh) : (Sh.arr ([] : List s.T).length s).K R w ([] : List s.T) [] := ⟨rfl, by simp, fun i x hx => by simp at hx⟩
theorem exec_append {o : Oper} {c : Call} {x y : Operand} {t : TypeId} {v : Value} (ho : o.op = .call c) (hc : c.callee = .builtin .append) (hx : c.args.toList = [x, y]) (ht : c.argTypes.toList = [t, t]) (h : (Builtin.append_ #[t, t] o.type #[a.eval x, a.eval y]).run P w = .ok v w') : (execOp a.eval o).run P w = .ok (.value v) w' := by
  rw [exec_builtin (b := .append) (s := Builtin.append_ c.argTypes o.type (c.args.map a.eval)) ho hc rfl]
  refine run_v ?_
  have e1 : c.args.map a.eval = #[a.eval x, a.eval y] := by
    apply Array.toList_inj.1
    rw [Array.toList_map, hx]; rfl
  have e2 : c.argTypes = #[t, t] := Array.toList_inj.1 ht
  rw [e1, e2]
  exact h
theorem appendK_ok {d : Nat} {o : Oper} {c : Call} {x y : Operand} {t e : TypeId} {s : Sh} {ys : List s.T} {k : List DV → Heap → Option α} {r : α} (hT : TR I w T a) (hH : HR I w H) (ho : o.op = .call c) (hc : c.callee = .builtin .append) (hx : c.args.toList = [x, y]) (ht : c.argTypes.toList = [t, t])
    (hu : P.underlying t = some (.slice e)) (hz : zeroOk P e s = true) (hy : elemsD H s (evO T y) = some ys) (h : appendK P d o e s (evO T x) ys T H k = some r) : ∃ T' H', k T' H' = some r ∧ Goes P o a I w T' H' := by
  have hvx := evO_ok hT x
  have hvy := evO_ok hT y
  generalize evO T x = dx at h hvx
  generalize hax : a.eval x = ux at hvx
  unfold appendK at h
  split at h
  · rename_i z cp
    obtain rfl := hvx.sc_eq
    split at h
    · rename_i hcnd
      simp only [Bool.and_eq_true, decide_eq_true_eq] at hcnd
      obtain ⟨⟨⟨rfl, rfl⟩, hb⟩, h1⟩ := hcnd
      obtain ⟨n, hn, h2⟩ := allocK_ok h
      obtain ⟨v', w', cs', g1, g2, g3, g4, g5⟩ := append_run (P := P) (t := t) (ty := o.type) (xs := []) (v := .slice none 0 0) (cs := []) hH hz hu ⟨by simp, .inl ⟨rfl, rfl⟩⟩ (K_arr_nil s) hvy hy (by simpa using hb) h1
      obtain ⟨k1, k2, k3⟩ := turnNew hH hn g3 g4 g2 g5
      refine ⟨_, _, h2, _, w', _, v', exec_append ho hc hx ht (by rw [hax]; exact g1), k2, k1, (hT.keep k3).put _ (VR.rw n s.sz v' In.put_same ?_), .inl rfl⟩
      rcases g2.2 with ⟨rfl, _⟩ | ⟨g, c', cur, rfl, _⟩
      · exact ⟨_, _, _, rfl⟩
      · exact ⟨_, _, _, rfl⟩
    · cases h
  · rename_i n
    split at h
    · rename_i E' s' xs hrow
      split at h
      · rename_i hE
        subst hE
        split at h
        · rename_i hs' hq
          cases hs'
          split at h
          · rename_i hcnd
            simp only [Bool.and_eq_true, decide_eq_true_eq] at hcnd
            cases hvx with | rw _ sz v hi hs =>
            obtain ⟨v0, cs, m1, m2, m3⟩ := hH.row n E' s xs hrow
            rw [hi] at m1
            simp only [Option.some.injEq, Ent.row.injEq] at m1
            obtain ⟨rfl, rfl⟩ := m1
            obtain ⟨v', w', cs', g1, g2, g3, g4, g5⟩ := append_run (P := P) (t := t) (ty := o.type) hH hz hu m2 m3 hvy hy hcnd.1 hcnd.2
            obtain ⟨k1, k2, k3⟩ := turn hH hi g3 g4 g2 g5
            refine ⟨_, _, h, _, w', _, v', exec_append ho hc hx ht (by rw [hax]; exact g1), k2, k1, (hT.sub k3).put _ (VR.rw n s.sz v' In.put_same ?_), .inl rfl⟩
            rcases g2.2 with ⟨rfl, _⟩ | ⟨g, c', cur, rfl, _⟩
            · exact ⟨_, _, _, rfl⟩
            · exact ⟨_, _, _, rfl⟩
          · cases h
        · cases h
      · cases h
    · cases h
  · rename_i n z l
    split at h
    · rename_i E' s' xs hrow
      split at h
      · rename_i hz0
        subst hz0
        split at h
        · rename_i hE
          subst hE
          split at h
          · rename_i hs' hq
            cases hs'
            split at h
            · rename_i hcnd
              simp only [Bool.and_eq_true, decide_eq_true_eq] at hcnd
              cases hvx with | sl _ _ _ sz A A' len cap cap' hi hl h0' h1' hc' =>
              obtain ⟨rfl, rfl⟩ := h0' rfl
              obtain ⟨v0, cs, m1, m2, m3⟩ := hH.row n E' s xs hrow
              rw [hi] at m1
              simp only [Option.some.injEq, Ent.row.injEq] at m1
              obtain ⟨rfl, rfl⟩ := m1
              obtain ⟨_, rfl, _, _⟩ := row_hdr hH hrow hi
              have hl' : l ≤ xs.length := by omega
              have hlen : (xs.take l).length = l := by simp; omega
              have hown : w.ownsRow 0 E' s.sz (.slice A' l cap') (xs.take l).length (cs.take (l * s.sz)) := by
                rw [hlen]
                rcases m2.2 with ⟨e, e0⟩ | ⟨g, c', cur, e, _⟩
                · simp only [Value.slice.injEq] at e
                  obtain ⟨rfl, _, rfl⟩ := e
                  have : l = 0 := by omega
                  subst this
                  exact ⟨by simp, .inl ⟨rfl, rfl⟩⟩
                · simp only [Value.slice.injEq] at e
                  obtain ⟨rfl, _, rfl⟩ := e
                  exact ownsRow_take m2 hl'
              obtain ⟨v', w', cs', g1, g2, g3, g4, g5⟩ := append_run (P := P) (t := t) (ty := o.type) hH hz hu hown (K_arr_take m3 hl') hvy hy hcnd.1 hcnd.2
              have e0 : ∀ (A : Option Addr) (n m c c' : Nat), (Value.slice A n c).ownBlock = (Value.slice A m c').ownBlock := by
                intro A n m c c'
                cases A <;> rfl
              obtain ⟨k1, k2, k3⟩ := turn (v' := v') hH hi (by rw [e0 A' xs.length l cap' cap']; exact g3) (by rw [e0 A' xs.length l cap' cap']; exact g4) g2 g5
              refine ⟨_, _, h, _, w', _, v', exec_append ho hc hx ht (by rw [hax]; exact g1), k2, k1, (hT.sub k3).put _ (VR.rw n s.sz v' In.put_same ?_), .inl rfl⟩
              rcases g2.2 with ⟨rfl, _⟩ | ⟨g, c', cur, rfl, _⟩
              · exact ⟨_, _, _, rfl⟩
              · exact ⟨_, _, _, rfl⟩
            · cases h
          · cases h
        · cases h
      · cases h
    · cases h
  · cases h
theorem opK_ok {d : Nat} {o : Oper} {k : K α} {r : α} (hT : TR I w T a) (hH : HR I w H) (h : opK P d o T H k = some r) : ∃ T' H', k T' H' = some r ∧ Goes P o a I w T' H' := by
  have plain : ∀ {I : In} {T : List DV} {H : Heap}, TR I w T a → HR I w H → (opE P d o T H fun v a => k (putT T o.dst v) (H.act a)) = some r → ∃ T' H', k T' H' = some r ∧ Goes P o a I w T' H' := by
    intro I T H hT hH h
    obtain ⟨v, act, h1, h2⟩ := opE_ok hT hH h
    exact ⟨_, _, h1, h2.goes hT hH⟩
  unfold opK at h
  split at h
  · rename_i t n ps ho
    split at h
    rename_i A' T' H' hs
    have hLR : LR I w (ps.toList.map fun e => evO T e.2) (ps.toList.map fun e => a.eval e.2) := by
      have := LR.map hT (ps.toList.map (·.2))
      simpa [List.map_map, Function.comp_def] using this
    obtain ⟨I1, g1, g2, g3, _⟩ := solid_ok hH hT hLR hs
    obtain ⟨T2, H2, k1, k2⟩ := plain g3 g1 h
    exact ⟨T2, H2, k1, k2.ext g2⟩
  · rename_i q x y ho
    split at h
    · split at h
      rename_i A' T' H' hs
      have hLR : LR I w [evO T y] [a.eval y] := .cons _ _ _ _ (evO_ok hT y) .nil
      obtain ⟨I1, g1, g2, g3, _⟩ := solid_ok hH hT hLR hs
      obtain ⟨T2, H2, k1, k2⟩ := plain g3 g1 h
      exact ⟨T2, H2, k1, k2.ext g2⟩
    · exact plain hT hH h
  · rename_i c ho
    split at h
    · rename_i hc
      split at h
      · rename_i x y t t' hx ht
        split at h
        · rename_i htt
          subst htt
          split at h
          · rename_i e hu
            split at h
            · rename_i s hsh
              split at h
              · rename_i hz
                split at h
                · rename_i ys hy
                  exact appendK_ok hT hH ho hc hx ht hu hz hy h
                · cases h
              · cases h
            · cases h
          · cases h
        · cases h
      · cases h
    · exact plain hT hH h
  · exact plain hT hH h
end
end Go.Proofs.Dk

/- Regions in the text's order; calls. -/
namespace Go.Proofs.Dk
open Go Go.RowKit
set_option linter.unusedVariables false
set_option linter.unusedSimpArgs false
section
variable {P : Program} {I I' : In} {w w' : World} {T : List DV} {a : Act} {H : Heap} {α : Type}
def Kept (u : Option (List Nat)) (I I' : In) : Prop := ∀ l, u = some l → ∀ n sz v, n ∉ l → I.ι n = some (.row sz v) → I'.ι n = some (.row sz v)
def retP (R : Value → World → Prop) : Ending → World → Prop
  | .returned z, w => R z w
  | _, _ => False
def Enters (P : Program) (f : FuncId) : Prop := ∀ (args : Array Value) (w : World), (callFunc f args).run P w = .ok (.enter f args) w
theorem enters_of {f : FuncId} (h : entersB P f = true) : Enters P f := by
  intro args w
  unfold entersB at h
  split at h
  · rename_i fn hf
    simp only [Bool.and_eq_true, bne_iff_ne, ne_eq] at h
    have h1 : (fn.name == "runtime.NumGoroutine") = false := by simp [h.1]
    have h2 : fn.body.isNone = false := by
      cases hb : fn.body with
      | none => rw [hb] at h; simp at h
      | some c => rfl
    have h3 : fn.body ≠ none := by
      intro e
      rw [e] at h
      simp at h
    simp [callFunc, hf, h.1, h3]
  · cases h
def CallS (P : Program) (call : CallK α) : Prop := ∀ {I : In} {w : World} {H : Heap} {A : List DV} {args : List Value} {f : FuncId} {k : DV → Heap → Option (List Nat) → Option α} {r : α}, HR I w H → LR I w A args → call f A H k = some r →
  Enters P f ∧ Calls P f args.toArray w (retP fun z w' => ∃ I' v H' u, k v H' u = some r ∧ Ext I w I' w' ∧ HR I' w' H' ∧ VR I' w' v z ∧ Kept u I I')
def In.drop (I : In) (n : Nat) : In := ⟨fun m => if m = n then (match I.ι m with | some (.row _ _) => none | x => x) else I.ι m, I.R⟩
theorem In.drop_but (I : In) (n : Nat) (w : World) : But n .none I (I.drop n) w w := by
  refine ⟨⟨fun _ h => h, fun _ _ => rfl⟩, fun m b h => ?_, fun m sz v hm h => ?_, fun s xs h => by cases h⟩
  · show (if m = n then _ else _) = _
    split
    · rw [h]
    · exact h
  · show (if m = n then _ else _) = _
    rw [if_neg hm]
    exact h
theorem drops_ok : ∀ {l : List Nat} {I : In} {T : List DV}, TR I w T a → Keeps I.R I'.R w w' → (∀ n b, I.ι n = some (.obj b) → I'.ι n = some (.obj b)) → (∀ n sz v, n ∉ l → I.ι n = some (.row sz v) → I'.ι n = some (.row sz v)) → TR I' w' (dropsL l T) a
  | [], I, T, hT, hk, ho, hr => hT.keep ⟨hk, ho, fun n sz v h => hr n sz v (by simp) h⟩
  | n :: l, I, T, hT, hk, ho, hr => by
    show TR I' w' (dropsL l (subL n .none T)) a
    refine drops_ok (l := l) (I := I.drop n) (hT.sub (I.drop_but n w)) hk (fun m b h => ?_) (fun m sz v hm h => ?_)
    · refine ho m b ?_
      by_cases hmn : m = n
      · simp only [In.drop, hmn, if_true] at h ⊢
        split at h
        · cases h
        · exact h
      · simpa only [In.drop, hmn, if_false] using h
    · by_cases hmn : m = n
      · simp only [In.drop, hmn, if_true] at h
        split at h
        · cases h
        · rename_i h2
          exact (h2 _ _ h).elim
      · simp only [In.drop, hmn, if_false] at h
        exact hr m sz v (by simp [hmn, hm]) h
theorem keepT_ok {u : Option (List Nat)} (hT : TR I w T a) (hH : HR I w H) (he : Ext I w I' w') (hk : Kept u I I') : TR I' w' (keepT T u) a := by
  cases u with
  | none => exact hT.bare (he.toObj hH)
  | some l => exact drops_ok hT (he.keeps hH) he.obj (hk l rfl)
theorem TR.fix {g : Nat} {v : DV} (h : T.getD g .undef = v) (hv : v ≠ .undef) : T.set g v = T := by
  apply List.ext_getElem?
  intro i
  rw [List.getElem?_set]
  split
  · rename_i e
    subst e
    split
    · rename_i hl
      rw [← h, List.getD_eq_getElem?_getD, List.getElem?_eq_getElem hl]
      rfl
    · rename_i hl
      rw [List.getD_eq_getElem?_getD, List.getElem?_eq_none (by omega)] at h
      exact absurd h.symm hv
  · rfl
theorem yields_bool {ops : Array Oper} {j : Nat} {g : Tmp} {b : Bool} (hT : TR I w T a) (hj : (ops[j]?).bind (·.dst) = some g) (h : T.getD g .undef = .sc (.bool b)) : yielded ops a.tmps j = some b := by
  have := hT.val g
  rw [h] at this
  have h1 := this.sc_eq
  unfold yielded
  rw [hj]
  simp only [Option.bind_some]
  rw [Array.getD_eq_getD_getElem?] at h1
  cases hg : a.tmps[g]? with
  | none => rw [hg] at h1; cases h1
  | some x =>
    rw [hg] at h1
    simp only [Option.getD_some] at h1
    subst h1
    rfl
theorem yields_none {ops : Array Oper} {j : Nat} {g : Tmp} (hT : TR I w T a) (hj : (ops[j]?).bind (·.dst) = some g) (h : T.getD g .undef = .tup []) : yielded ops a.tmps j = none := by
  have := hT.val g
  rw [h] at this
  unfold yielded
  rw [hj]
  simp only [Option.bind_some]
  generalize hx : a.tmps.getD g undef = x at this
  cases this with
  | tup _ vs hl =>
    rw [Array.getD_eq_getD_getElem?] at hx
    cases hg : a.tmps[g]? with
    | none => rfl
    | some y =>
      rw [hg] at hx
      simp only [Option.getD_some] at hx
      subst hx
      rfl
theorem skipped (hT : TR I w T a) (d : Option Tmp) : TR I w (putT T d (.tup [])) (a.put d undef) := hT.put d (.tup [] #[] .nil)
theorem Goes.wp {o : Oper} {T' : List DV} {H' : Heap} {K : Act → World → Prop} {Q : Exit → Act → World → Prop} (h : Goes P o a I w T' H') (hk : ∀ I' w' u, Ext I w I' w' → HR I' w' H' → TR I' w' T' (a.put o.dst u) → K (a.put o.dst u) w') : o.wp P a w K Q := by
  obtain ⟨I', w', n, u, h1, h2, h3, h4, h5⟩ := h
  unfold Oper.wp
  rw [h1]
  rcases h5 with rfl | ⟨rfl, rfl⟩
  · exact hk I' w' u h2 h3 h4
  · exact hk I' w' undef h2 h3 h4
theorem call_args {f : Operand} {g : FuncId} {x y : List DV} {c : Call} (hT : TR I w T a) (h : evO T f = .fn (.func g) x y) : ∃ x' y', a.eval f = .func (.func g) x' y' ∧ LR I w (x ++ c.args.toList.map (evO T) ++ y) (x' ++ c.args.map a.eval ++ y').toList := by
  have hf := evO_ok hT f
  rw [h] at hf
  obtain ⟨x', y', e, h1, h2⟩ := hf.fn_case
  refine ⟨x', y', e, ?_⟩
  have app : ∀ {l m : List DV} {l' m' : List Value}, LR I w l l' → LR I w m m' → LR I w (l ++ m) (l' ++ m') := by
    intro l m l' m' hl hm
    induction l generalizing l' with
    | nil => cases hl with | nil => exact hm
    | cons d r ih => cases hl with | cons _ _ u vs hd hr => exact .cons _ _ _ _ hd (ih hr)
  simp only [Array.toList_append]
  exact app (app h1 (LR.mapTo hT c.args)) h2
theorem exec_call {o : Oper} {c : Call} {f : Operand} {g : FuncId} {x' y' : Array Value} (ho : o.op = .call c) (hc : c.callee = .value f) (hf : a.eval f = .func (.func g) x' y') (he : Enters P g) : (execOp a.eval o).run P w = .ok (.enter g (x' ++ c.args.map a.eval ++ y')) w := by
  unfold execOp
  rw [ho]
  simp only [resolve, hc, hf, Deferred.ofValue]
  exact he _ _
end
section
variable {P : Program} {α : Type}
theorem callStep {call : CallK α} (hcall : CallS P call) {I : In} {w : World} {T : List DV} {a : Act} {H : Heap} {o : Oper} {c : Call} {f : Operand} {g : FuncId} {x y : List DV} {sp : Bool} {k : K α} {r : α} {K : Act → World → Prop} {Q : Exit → Act → World → Prop} (hT : TR I w T a) (hH : HR I w H)
    (ho : o.op = .call c) (hc : c.callee = .value f) (hf : evO T f = .fn (.func g) x y)
    (h : (match (if sp = true then (x ++ c.args.toList.map (evO T) ++ y, T, H) else solidA (x ++ c.args.toList.map (evO T) ++ y) T H) with
      | (A, T, H) => call g A H fun v H u => k (putT (keepT T u) o.dst v) H) = some r)
    (hk : ∀ I' w' T' H' u, Ext I w I' w' → HR I' w' H' → TR I' w' T' (a.put o.dst u) → k T' H' = some r → K (a.put o.dst u) w') : o.wp P a w K Q := by
  obtain ⟨x', y', e1, e2⟩ := call_args (c := c) hT hf
  split at h
  rename_i A1 T1 H1 hs
  obtain ⟨I1, g1, g2, g3, g4⟩ : ∃ I1, HR I1 w H1 ∧ Ext I w I1 w ∧ TR I1 w T1 a ∧ LR I1 w A1 (x' ++ c.args.map a.eval ++ y').toList := by
    split at hs
    · simp only [Prod.mk.injEq] at hs
      obtain ⟨rfl, rfl, rfl⟩ := hs
      exact ⟨I, hH, Ext.refl I w, hT, e2⟩
    · exact solid_ok hH hT e2 hs
  obtain ⟨k1, k2⟩ := hcall g1 g4 h
  unfold Oper.wp
  rw [exec_call ho hc e1 k1, Oper.upon_enter]
  refine Calls.mono k2 ?_
  rintro e w' he
  cases e with
  | returned z =>
    obtain ⟨I', v, H', u, m1, m2, m3, m4, m5⟩ := he
    exact hk I' w' _ H' z (g2.trans m2) m3 ((keepT_ok g3 g1 m2 m5).put _ m4) m1
  | _ => exact he.elim
theorem evOps_ok {cx : Cx} {call : CallK α} (hcall : CallS cx.P call) {d : Nat} {ops : Array Oper} {k : K α} {r : α} {Q : Exit → Act → World → Prop} : ∀ {l : List Oper} {I : In} {w : World} {T : List DV} {a : Act} {H : Heap}, TR I w T a → HR I w H → evOps cx call d ops l T H k = some r →
    (∀ I' w' T' H' a', Ext I w I' w' → HR I' w' H' → TR I' w' T' a' → k T' H' = some r → Q .normal a' w') → wpList cx.P ops Q l a w
  | [], I, w, T, a, H, hT, hH, h, hQ => hQ I w T H a (Ext.refl I w) hH hT h
  | o :: l, I, w, T, a, H, hT, hH, h, hQ => by
    have next : ∀ {I' : In} {w' : World} {T' : List DV} {H' : Heap} {a' : Act}, Ext I w I' w' → HR I' w' H' → TR I' w' T' a' → evOps cx call d ops l T' H' k = some r → wpList cx.P ops Q l a' w' := fun he hH' hT' h' =>
      evOps_ok hcall hT' hH' h' fun I2 w2 T2 H2 a2 he2 hH2 hT2 h2 => hQ I2 w2 T2 H2 a2 (he.trans he2) hH2 hT2 h2
    have hrun : ∀ {R : Option α}, (match o.op with
      | .call c => match c.callee with
        | .value f => match evO T f with
          | .fn (.func g) a b => match (if rawArgs g = true then (a ++ c.args.toList.map (evO T) ++ b, T, H) else solidA (a ++ c.args.toList.map (evO T) ++ b) T H) with
            | (A, T, H) => call g A H fun v H u => evOps cx call d ops l (putT (keepT T u) o.dst v) H k
          | _ => none
        | _ => opK cx.P d o T H fun T H => evOps cx call d ops l T H k
      | _ => opK cx.P d o T H fun T H => evOps cx call d ops l T H k) = some r → o.wp cx.P a w (wpList cx.P ops Q l) Q := by
      intro R h
      have plain : (opK cx.P d o T H fun T H => evOps cx call d ops l T H k) = some r → o.wp cx.P a w (wpList cx.P ops Q l) Q := by
        intro h
        obtain ⟨T', H', h1, h2⟩ := opK_ok hT hH h
        exact h2.wp fun I' w' u he hH' hT' => next he hH' hT' h1
      split at h
      · rename_i c ho
        split at h
        · rename_i f hc
          split at h
          · rename_i g x y hf
            exact callStep hcall (sp := rawArgs g) (k := fun T H => evOps cx call d ops l T H k) hT hH ho hc hf h fun I' w' T' H' u he hH' hT' h' => next he hH' hT' h'
          · cases h
        · exact plain h
      · exact plain h
    unfold evOps at h
    simp only at h
    unfold wpList
    split at h
    · rename_i hg
      rw [if_pos (by simp [Region.wanted, hg])]
      exact .inl (hrun (R := some r) h)
    · rename_i j want hg
      split at h
      · rename_i g hj
        split at h
        · rename_i b hb
          have hy := yields_bool hT hj hb
          have hfix : T.set g (.sc (.bool b)) = T := TR.fix hb (by simp)
          cases b with
          | true =>
            rw [hfix] at h
            cases want with
            | true =>
              rw [if_pos (by simp [Region.wanted, hg, hy])]
              exact .inl (hrun (R := some r) h)
            | false =>
              rw [if_neg (by simp [Region.wanted, hg, hy])]
              exact next (Ext.refl I w) hH (skipped hT o.dst) h
          | false =>
            rw [hfix] at h
            cases want with
            | true =>
              rw [if_neg (by simp [Region.wanted, hg, hy])]
              exact next (Ext.refl I w) hH (skipped hT o.dst) h
            | false =>
              rw [if_pos (by simp [Region.wanted, hg, hy])]
              exact .inl (hrun (R := some r) h)
        · rename_i hb
          have hy := yields_none hT hj hb
          rw [if_neg (by simp [Region.wanted, hg, hy])]
          exact next (Ext.refl I w) hH (skipped hT o.dst) h
        · cases h
      · cases h
end
end Go.Proofs.Dk

/- The reader's operations: whatever goes on after them; what they look at. -/
namespace Go.Proofs.Dk
open Go Go.RowKit
set_option linter.unusedVariables false
set_option linter.unusedSimpArgs false
section
variable {P : Program} {α : Type}
theorem pickK_nat {c x y : DV} {k : DV → Option α} : pickK c x y k = (pickK c x y some).bind k := by
  unfold pickK
  repeat' split
  all_goals first | rfl | simp
theorem binK_nat {op : BinOp} {t : TypeId} {x y : DV} {k : DV → Option α} : binK P op t x y k = (binK P op t x y some).bind k := by
  unfold binK
  repeat' split
  all_goals first | rfl | simp
theorem idxAddrK_nat {t : TypeId} {H : Heap} {x : DV} {i : Int} {k : DV → Option α} : idxAddrK P t H x i k = (idxAddrK P t H x i some).bind k := by
  unfold idxAddrK
  repeat' split
  all_goals first | rfl | simp
theorem indexK_nat {t : TypeId} {x : DV} {i : Int} {k : DV → Option α} : indexK P t x i k = (indexK P t x i some).bind k := by
  unfold indexK
  repeat' split
  all_goals first | rfl | simp
theorem boundK_nat {x : DV} {n : Nat} {β : Type} {k : Nat → Option β} : boundK x n k = (boundK x n some).bind k := by
  unfold boundK
  repeat' split
  all_goals first | rfl | simp
theorem lowK_nat {lo : Option DV} {k : Nat → Nat → Option α} {h : Nat} : lowK lo k h = (lowK lo (fun a b => some (a, b)) h).bind fun e => k e.1 e.2 := by
  unfold lowK
  split
  · rw [boundK_nat, boundK_nat (k := fun l => some (l, h))]
    cases boundK _ h some <;> rfl
  · rfl
theorem boundsK_nat {lo hi : Option DV} {n : Nat} {k : Nat → Nat → Option α} : boundsK n lo hi k = (boundsK n lo hi (fun a b => some (a, b))).bind fun e => k e.1 e.2 := by
  unfold boundsK
  split
  · rw [boundK_nat, boundK_nat (k := lowK lo _)]
    cases boundK _ n some with
    | none => rfl
    | some x => exact lowK_nat
  · exact lowK_nat
theorem sliceK_nat {t : TypeId} {H : Heap} {x : DV} {lo hi mx : Option DV} {k : DV → Option α} : sliceK P t H x lo hi mx k = (sliceK P t H x lo hi mx some).bind k := by
  have B : ∀ {n : Nat} {f : Nat → Nat → DV}, (boundsK n lo hi fun l h => k (f l h)) = (boundsK n lo hi fun l h => some (f l h)).bind k := by
    intro n f
    rw [boundsK_nat, boundsK_nat (k := fun l h => some (f l h))]
    cases boundsK n lo hi _ <;> rfl
  unfold sliceK
  repeat' split
  all_goals first | rfl | exact B | simp
theorem allocK_nat {d : Nat} {o : Oper} {H : Heap} {b : Blk} {v : Nat → DV} {k : DV → Actn → Option α} : allocK d o H b v k = (allocK d o H b v fun v a => some (v, a)).bind fun e => k e.1 e.2 := by
  unfold allocK
  simp only
  split <;> rfl
theorem tabK_nat2 {z : DV} {n : Int} {g : DV → Bool → DV} {k : DV → Actn → Option α} : ∀ {ks : List (List Int)} {vs : List DV}, (tabK ks vs z n fun u b => k (g u b) none) = (tabK ks vs z n fun u b => some (g u b, (none : Actn))).bind fun e => k e.1 e.2
  | [], vs => by cases vs <;> rfl
  | l :: ks, [] => rfl
  | l :: ks, v :: vs => by
    simp only [tabK]
    split
    · rfl
    · exact tabK_nat2
theorem opE_nat {d : Nat} {o : Oper} {T : List DV} {H : Heap} {k : DV → Actn → Option α} : opE P d o T H k = (opE P d o T H fun v a => some (v, a)).bind fun e => k e.1 e.2 := by
  have bd : ∀ {x : Option DV} {k : DV → Actn → Option α}, x.bind (fun v => k v none) = (x.bind fun v => some (v, (none : Actn))).bind fun e => k e.1 e.2 := by
    intro x k
    cases x <;> rfl
  unfold opE
  simp only
  split
  all_goals try first | rfl | exact allocK_nat
  · rw [pickK_nat, pickK_nat (k := fun x => some (x, none))]; exact bd
  · split
    · exact allocK_nat
    · rfl
  · split
    · split
      · exact allocK_nat
      · rfl
    · rfl
  · split
    · split <;> rfl
    · rfl
  · repeat' split
    all_goals first | rfl | exact allocK_nat
  · split <;> rfl
  · split <;> rfl
  · split <;> rfl
  · rw [binK_nat, binK_nat (k := fun x => some (x, none))]; exact bd
  · split <;> rfl
  · repeat' split
    all_goals rfl
  · repeat' split
    all_goals first | rfl | exact allocK_nat
  · rw [sliceK_nat, sliceK_nat (k := fun x => some (x, none))]; exact bd
  · split <;> rfl
  · split <;> rfl
  · split
    · rw [idxAddrK_nat, idxAddrK_nat (k := fun x => some (x, none))]; exact bd
    · rfl
  · split
    · rw [indexK_nat, indexK_nat (k := fun x => some (x, none))]; exact bd
    · rfl
  · split
    · exact allocK_nat
    · rfl
  · split
    · split
      · split <;> rfl
      · rfl
    · rfl
  · split
    · split
      · split
        · exact tabK_nat2 (g := fun u b => if _ = true then .tup [u, .sc (.bool b)] else u)
        · rfl
      · rfl
    · rfl
  · split
    · split <;> rfl
    · rfl
  · split
    · repeat' split
      all_goals rfl
    · repeat' split
      all_goals rfl
    · repeat' split
      all_goals rfl
    · rfl
end
end Go.Proofs.Dk

/- What an operation looks at. -/
namespace Go.Proofs.Dk
open Go Go.RowKit
set_option linter.unusedVariables false
set_option linter.unusedSimpArgs false
section
variable {P : Program} {α : Type} {H H' : Heap}
theorem readsD_mem {T : List DV} {o : Oper} {x : Operand} {n : Nat} (ho : looksB o = true) (hx : x ∈ o.op.operands.toList) (hn : n ∈ nmD (evO T x)) : n ∈ readsD T o := by
  unfold readsD
  rw [if_pos ho]
  exact List.mem_flatMap.2 ⟨x, hx, hn⟩
theorem loadD_loc {t : TypeId} {x : DV} (h : ∀ n ∈ nmD x, H n = H' n) : loadD P t H x = loadD P t H' x := by
  cases x <;> simp only [loadD] <;> rw [h _ (by simp [nmD])]
theorem storeD_loc {t : TypeId} {x v : DV} (h : ∀ n ∈ nmD x, H n = H' n) : storeD P t H x v = storeD P t H' x v := by
  unfold storeD
  cases x <;> simp only <;> rw [h _ (by simp [nmD])]
theorem idxAddrK_loc {t : TypeId} {x : DV} {i : Int} {k : DV → Option α} (h : ∀ n ∈ nmD x, H n = H' n) : idxAddrK P t H x i k = idxAddrK P t H' x i k := by
  unfold idxAddrK
  cases x <;> simp only <;> rw [h _ (by simp [nmD])]
theorem sliceK_loc {t : TypeId} {x : DV} {lo hi mx : Option DV} {k : DV → Option α} (h : ∀ n ∈ nmD x, H n = H' n) : sliceK P t H x lo hi mx k = sliceK P t H' x lo hi mx k := by
  cases mx with
  | some _ => rfl
  | none =>
    unfold sliceK
    cases x <;> first | (simp only; rw [h _ (by simp [nmD])]; done) | (generalize P.underlying t = u; cases u with | none => rfl | some ty => (cases ty <;> first | rfl | (simp only; rw [h _ (by simp [nmD])]; done) | (rename_i v _; cases v <;> first | rfl | (rename_i A _ _; cases A <;> rfl)) | (rename_i v; cases v <;> first | rfl | (rename_i A _ _; cases A <;> rfl)) | (rename_i v _ _; cases v <;> first | rfl | (rename_i A _ _; cases A <;> rfl))))
theorem lenD_loc {t : TypeId} {x : DV} (h : ∀ n ∈ nmD x, H n = H' n) : lenD P t H x = lenD P t H' x := by
  unfold lenD
  cases x <;> first | (simp only; rw [h _ (by simp [nmD])]; done) | (generalize P.underlying t = u; cases u with | none => rfl | some ty => (cases ty <;> first | rfl | (simp only; rw [h _ (by simp [nmD])]; done) | (rename_i v _; cases v <;> first | rfl | (rename_i A _ _; cases A <;> rfl)) | (rename_i v; cases v <;> first | rfl | (rename_i A _ _; cases A <;> rfl)) | (rename_i v _ _; cases v <;> first | rfl | (rename_i A _ _; cases A <;> rfl))))
theorem fresh_loc : ∀ {m b : Nat}, (∀ n, b ≤ n → n ≤ b + m → H n = H' n) → fresh H m b = fresh H' m b ∧ b ≤ fresh H m b ∧ fresh H m b ≤ b + m
  | 0, b, h => ⟨rfl, Nat.le_refl _, Nat.le_refl _⟩
  | m + 1, b, h => by
    have h0 := h b (Nat.le_refl _) (by omega)
    obtain ⟨g1, g2, g3⟩ := fresh_loc (m := m) (b := b + 1) (fun n h1 h2 => h n (by omega) (by omega))
    simp only [fresh]
    rw [← h0]
    cases H b with
    | none => exact ⟨rfl, Nat.le_refl _, Nat.le_add_right _ _⟩
    | some _ => exact ⟨g1, Nat.le_trans (Nat.le_succ b) g2, Nat.le_trans g3 (by omega)⟩
theorem allocK_loc {d : Nat} {o : Oper} {b : Blk} {v : Nat → DV} {k : DV → Actn → Option α} (h : ∀ n, base d o.dst ≤ n → n < base d o.dst + 64 → H n = H' n) : allocK d o H b v k = allocK d o H' b v k := by
  obtain ⟨g1, g2, g3⟩ := fresh_loc (m := 63) (b := base d o.dst) (fun n h1 h2 => h n h1 (by omega))
  unfold allocK
  simp only
  rw [← g1, h _ g2 (by omega)]
theorem elemsD_eq {s : Sh} {y : DV} (h : ∀ n ∈ nmD y, H n = H' n) : elemsD H s y = elemsD H' s y := by
  cases y
  case rw n => simp only [elemsD]; rw [h n (by simp [nmD])]
  case sl n o l => simp only [elemsD]; rw [h n (by simp [nmD])]
  case sc v =>
    cases v with
    | slice a n c => cases a <;> rfl
    | _ => rfl
  all_goals rfl
theorem opE_loc {d : Nat} {o : Oper} {T T' : List DV} {k : DV → Actn → Option α} (hT : ∀ x ∈ o.op.operands.toList, evO T x = evO T' x) (hR : ∀ n ∈ readsD T o, H n = H' n) (hB : hasBase o = true → ∀ n, base d o.dst ≤ n → n < base d o.dst + 64 → H n = H' n) : opE P d o T H k = opE P d o T' H' k := by
  have hN : looksB o = true → ∀ x ∈ o.op.operands.toList, ∀ n ∈ nmD (evO T' x), H n = H' n := fun ho x hx n hn => hR n (readsD_mem ho hx (by rw [hT x hx]; exact hn))
  have pairs : ∀ ps : Array (Nat × Operand), (∀ x ∈ (ps.toList.map (·.2)), evO T x = evO T' x) → (ps.toList.map fun e => (e.1, evO T e.2)) = ps.toList.map fun e => (e.1, evO T' e.2) := fun ps hp => List.map_congr_left fun p hm => by rw [hp p.2 (List.mem_map_of_mem hm)]
  have pairs2 : ∀ ps : Array (Nat × Operand), (∀ x ∈ (ps.toList.map (·.2)), evO T x = evO T' x) → (ps.toList.map fun e => evO T e.2) = ps.toList.map fun e => evO T' e.2 := fun ps hp => List.map_congr_left fun p hm => by rw [hp p.2 (List.mem_map_of_mem hm)]
  obtain ⟨dst, op, type, pos, after, guard⟩ := o
  cases op
  case move x => simp only [opE]; rw [hT x (by simp [Op.operands])]
  case assign x => simp only [opE]; rw [hT x (by simp [Op.operands])]
  case pick c a b => simp only [opE]; rw [hT c (by simp [Op.operands]), hT a (by simp [Op.operands]), hT b (by simp [Op.operands])]
  case alloc e =>
    simp only [opE]
    split
    · exact allocK_loc (hB rfl)
    · rfl
  case box e x =>
    simp only [opE]
    rw [hT x (by simp [Op.operands])]
    repeat' split
    all_goals first | rfl | exact allocK_loc (hB rfl)
  case build t ps => simp only [opE]; rw [pairs ps fun x hx => hT x (by simpa [Op.operands] using hx)]
  case buildSlice t n ps =>
    simp only [opE]
    rw [pairs2 ps fun x hx => hT x (by simpa [Op.operands] using hx)]
    repeat' split
    all_goals first | rfl | exact allocK_loc (hB rfl)
  case load t x => simp only [opE]; rw [hT x (by simp [Op.operands]), loadD_loc (hN rfl x (by simp [Op.operands]))]
  case store t x v => simp only [opE]; rw [hT x (by simp [Op.operands]), hT v (by simp [Op.operands]), storeD_loc (hN rfl x (by simp [Op.operands]))]
  case nilCheck x => simp only [opE]; rw [hT x (by simp [Op.operands])]
  case binOp q t x y z => simp only [opE]; rw [hT x (by simp [Op.operands]), hT y (by simp [Op.operands])]
  case unOp q t x => simp only [opE]; rw [hT x (by simp [Op.operands])]
  case convert q t x =>
    simp only [opE]
    rw [hT x (by simp [Op.operands])]
    have he : elemsD H (.int .u8) (evO T' x) = elemsD H' (.int .u8) (evO T' x) := elemsD_eq (hN rfl x (by simp [Op.operands]))
    generalize evO T' x = y at he
    split
    · rfl
    · rfl
    · rw [he]
    · rfl
    · rfl
  case makeFunc F a b =>
    simp only [opE]
    rw [List.map_congr_left (l := a.toList) fun x hx => hT x (by simp only [Op.operands, Array.toList_append, List.mem_append]; exact .inl hx), List.map_congr_left (l := b.toList) fun x hx => hT x (by simp only [Op.operands, Array.toList_append, List.mem_append]; exact .inr hx)]
  case makeSlice t l c =>
    simp only [opE]
    rw [hT l (by simp [Op.operands]), hT c (by simp [Op.operands])]
    repeat' split
    all_goals first | rfl | exact allocK_loc (hB rfl)
  case slice t x lo hi mx =>
    simp only [opE]
    have m : ∀ y : Option Operand, (∀ z, y = some z → evO T z = evO T' z) → y.map (evO T) = y.map (evO T') := fun y hy => by
      cases y with
      | none => rfl
      | some z => simp [hy z rfl]
    rw [hT x (by simp [Op.operands]), m lo fun z hz => hT z (by simp [Op.operands, hz]), m hi fun z hz => hT z (by simp [Op.operands, hz]), m mx fun z hz => hT z (by simp [Op.operands, hz]), sliceK_loc (hN rfl x (by simp [Op.operands]))]
  case fieldAddr t x f => simp only [opE]; rw [hT x (by simp [Op.operands])]
  case field t x f => simp only [opE]; rw [hT x (by simp [Op.operands])]
  case indexAddr t x i =>
    simp only [opE]
    rw [hT x (by simp [Op.operands]), hT i (by simp [Op.operands])]
    split
    · exact idxAddrK_loc (hN rfl x (by simp [Op.operands]))
    · rfl
  case index t x i => simp only [opE]; rw [hT x (by simp [Op.operands]), hT i (by simp [Op.operands])]
  case makeMap t r =>
    cases r with
    | none =>
      simp only [opE]
      split
      · exact allocK_loc (hB rfl)
      · rfl
    | some r => rfl
  case insert t m i x =>
    simp only [opE]
    rw [hT m (by simp [Op.operands]), hT i (by simp [Op.operands]), hT x (by simp [Op.operands])]
    split
    · rename_i hm _
      rw [hN rfl m (by simp [Op.operands]) _ (by rw [hm]; simp [nmD])]
    · rfl
  case lookup t x i c =>
    simp only [opE]
    have : tabOf H (evO T' x) = tabOf H' (evO T' x) := by
      have hx := hN rfl x (by simp [Op.operands])
      unfold tabOf
      cases hd : evO T' x <;> simp only
      rw [hx _ (by rw [hd]; simp [nmD])]
    rw [hT x (by simp [Op.operands]), hT i (by simp [Op.operands]), this]
  case extract x i => simp only [opE]; rw [hT x (by simp [Op.operands])]
  case call c =>
    have hA : c.args.toList.map (evO T) = c.args.toList.map (evO T') := List.map_congr_left fun x hx => hT x (by simp [Op.operands, Call.operands, Array.mem_toList_iff.1 hx])
    simp only [opE]
    rw [hA]
    split
    · split
      · rename_i x t hx ht
        have hm : x ∈ (Op.call c).operands.toList := by
          have : x ∈ c.args.toList := by rw [hx]; simp
          simp [Op.operands, Call.operands, Array.mem_toList_iff.1 this]
        rw [hT x hm, lenD_loc (hN rfl x hm)]
      · rfl
    · rfl
    · rfl
    · rfl
  all_goals rfl
end
end Go.Proofs.Dk

/- Regions in any order: the reader's side. -/
namespace Go.Proofs.Dk
open Go Go.RowKit
set_option linter.unusedVariables false
set_option linter.unusedSimpArgs false
abbrev St := List DV × Heap
def dropBk (u : List Nat) (n : Nat) (b : Option Blk) : Option Blk := u.foldl (fun b m => if n = m then none else match b with | some b => some (b.sub m .none) | none => none) b
theorem drops_at : ∀ (u : List Nat) (H : Heap) (n : Nat), (Heap.drops u H) n = dropBk u n (H n)
  | [], H, n => rfl
  | m :: u, H, n => by
    show (Heap.drops u (H.sub m .none)) n = dropBk u n _
    rw [drops_at u]
    rfl
theorem dropBk_none : ∀ (u : List Nat) (n : Nat), dropBk u n none = none
  | [], n => rfl
  | m :: u, n => by
    show dropBk u n (if n = m then none else none) = none
    rw [ite_self]
    exact dropBk_none u n
mutual
theorem DV.sub_clean {m : Nat} {g : Sub} : ∀ (d : DV), m ∉ d.rows → d.sub m g = d
  | .rp n sz i p, h => by
    have : n ≠ m := fun e => h (by simp [DV.rows, e])
    simp [DV.sub, this]
  | .rw n, h => by
    have : n ≠ m := fun e => h (by simp [DV.rows, e])
    simp [DV.sub, this]
  | .sl n o l, h => by
    have : n ≠ m := fun e => h (by simp [DV.rows, e])
    simp [DV.sub, this]
  | .fn F a b, h => by
    simp only [DV.rows, List.mem_append, not_or] at h
    simp only [DV.sub]
    rw [subL_clean a h.1, subL_clean b h.2]
  | .agg cs, h => by
    simp only [DV.rows] at h
    simp only [DV.sub]
    rw [subL_clean cs h]
  | .tup cs, h => by
    simp only [DV.rows] at h
    simp only [DV.sub]
    rw [subL_clean cs h]
  | .tab ks vs, h => by
    simp only [DV.rows] at h
    simp only [DV.sub]
    rw [subL_clean vs h]
  | .undef, h => rfl
  | .sc v, h => rfl
  | .ptr n o p, h => rfl
  | .pi its, h => rfl
  | .vs s xs, h => rfl
  | .arr s n xs, h => rfl
  | .mh n, h => rfl
theorem subL_clean {m : Nat} {g : Sub} : ∀ (l : List DV), m ∉ rowsL l → subL m g l = l
  | [], h => rfl
  | d :: r, h => by
    simp only [rowsL, List.mem_append, not_or] at h
    simp only [subL]
    rw [DV.sub_clean d h.1, subL_clean r h.2]
end
theorem Blk.sub_clean {m : Nat} {g : Sub} {b : Blk} (h : m ∉ rowsB (some b)) : b.sub m g = b := by
  cases b with
  | obj cs => simp only [Blk.sub]; rw [subL_clean cs h]
  | mp ks vs => simp only [Blk.sub]; rw [subL_clean vs h]
  | row E s xs => rfl
theorem disjB_iff {u h : List Nat} : disjB u h = true ↔ ∀ n ∈ u, n ∉ h := by
  unfold disjB
  simp
theorem dropBk_cons (m : Nat) (u : List Nat) (n : Nat) (b : Option Blk) : dropBk (m :: u) n b = dropBk u n (if n = m then none else match b with | some b => some (b.sub m .none) | none => none) := rfl
theorem dropBk_clean : ∀ {u : List Nat} {n : Nat} {b : Option Blk}, n ∉ u → disjB u (rowsB b) = true → dropBk u n b = b
  | [], n, b, h1, h2 => rfl
  | m :: u, n, b, h1, h2 => by
    rw [disjB_iff] at h2
    simp only [List.mem_cons, not_or] at h1
    rw [dropBk_cons, if_neg h1.1]
    cases b with
    | none => exact dropBk_none u n
    | some b =>
      simp only
      rw [Blk.sub_clean (h2 m (List.mem_cons_self ..))]
      exact dropBk_clean h1.2 (disjB_iff.2 fun k hk => h2 k (List.mem_cons_of_mem _ hk))
mutual
theorem DV.sub_comm (m k : Nat) : ∀ (d : DV), (d.sub m .none).sub k .none = (d.sub k .none).sub m .none
  | .rp n sz i p => by
    by_cases h1 : n = m <;> by_cases h2 : n = k <;> simp [DV.sub, h1, h2] <;> (try split) <;> simp_all [DV.sub]
  | .rw n => by
    by_cases h1 : n = m <;> by_cases h2 : n = k <;> simp [DV.sub, h1, h2, Sub.whole] <;> (try split) <;> simp_all [DV.sub, Sub.whole]
  | .sl n o l => by
    by_cases h1 : n = m <;> by_cases h2 : n = k <;> simp [DV.sub, h1, h2, Sub.part] <;> (try split) <;> simp_all [DV.sub, Sub.part]
  | .fn F a b => by simp only [DV.sub]; rw [subL_comm m k a, subL_comm m k b]
  | .agg cs => by simp only [DV.sub]; rw [subL_comm m k cs]
  | .tup cs => by simp only [DV.sub]; rw [subL_comm m k cs]
  | .tab ks vs => by simp only [DV.sub]; rw [subL_comm m k vs]
  | .undef => rfl
  | .sc v => rfl
  | .ptr n o p => rfl
  | .pi its => rfl
  | .vs s xs => rfl
  | .arr s n xs => rfl
  | .mh n => rfl
theorem subL_comm (m k : Nat) : ∀ (l : List DV), subL k .none (subL m .none l) = subL m .none (subL k .none l)
  | [] => rfl
  | d :: r => by
    simp only [subL]
    rw [DV.sub_comm m k d, subL_comm m k r]
end
theorem Blk.sub_comm (m k : Nat) : ∀ (b : Blk), (b.sub m .none).sub k .none = (b.sub k .none).sub m .none
  | .obj cs => by simp only [Blk.sub]; rw [subL_comm]
  | .mp ks vs => by simp only [Blk.sub]; rw [subL_comm]
  | .row E s xs => rfl
def drop1 (n m : Nat) (b : Option Blk) : Option Blk := if n = m then none else match b with | some b => some (b.sub m .none) | none => none
theorem drop1_none (n m : Nat) : drop1 n m none = none := by unfold drop1; split <;> rfl
theorem drop1_self (n : Nat) (b : Option Blk) : drop1 n n b = none := by unfold drop1; rw [if_pos rfl]
theorem drop1_ne {n m : Nat} (h : n ≠ m) (b : Blk) : drop1 n m (some b) = some (b.sub m .none) := by unfold drop1; rw [if_neg h]
theorem drop1_comm (n m k : Nat) (b : Option Blk) : drop1 n k (drop1 n m b) = drop1 n m (drop1 n k b) := by
  cases b with
  | none => rw [drop1_none, drop1_none, drop1_none]
  | some b =>
    by_cases h1 : n = m
    · subst h1
      rw [drop1_self, drop1_none, drop1_self]
    · by_cases h2 : n = k
      · subst h2
        rw [drop1_self, drop1_self, drop1_none]
      · rw [drop1_ne h1, drop1_ne h2, drop1_ne h2, drop1_ne h1, Blk.sub_comm]
theorem dropBk_drop1 (n m : Nat) : ∀ (u : List Nat) (b : Option Blk), dropBk u n (drop1 n m b) = drop1 n m (dropBk u n b)
  | [], b => rfl
  | k :: u, b => by
    show dropBk u n (drop1 n k (drop1 n m b)) = drop1 n m (dropBk u n (drop1 n k b))
    rw [drop1_comm, dropBk_drop1 n m u]
theorem dropBk_comm (n : Nat) : ∀ (u v : List Nat) (b : Option Blk), dropBk u n (dropBk v n b) = dropBk v n (dropBk u n b)
  | u, [], b => rfl
  | u, m :: v, b => by
    show dropBk u n (dropBk v n (drop1 n m b)) = dropBk v n (drop1 n m (dropBk u n b))
    rw [dropBk_comm n u v, dropBk_drop1]
def dropV (u : List Nat) (d : DV) : DV := u.foldl (fun d m => d.sub m .none) d
theorem subL_getDn (m : Nat) : ∀ (T : List DV) (t : Nat), (subL m .none T).getD t .undef = (T.getD t .undef).sub m .none
  | [], t => rfl
  | d :: r, 0 => rfl
  | d :: r, t + 1 => by
    have := subL_getDn m r t
    simpa [subL] using this
theorem subL_length (m : Nat) : ∀ (T : List DV), (subL m .none T).length = T.length
  | [] => rfl
  | d :: r => by simp [subL, subL_length m r]
theorem dropsL_getD : ∀ (u : List Nat) (T : List DV) (t : Nat), (dropsL u T).getD t .undef = dropV u (T.getD t .undef)
  | [], T, t => rfl
  | m :: u, T, t => by
    show (dropsL u (subL m .none T)).getD t .undef = dropV u ((T.getD t .undef).sub m .none)
    rw [dropsL_getD u, subL_getDn]
theorem dropsL_length : ∀ (u : List Nat) (T : List DV), (dropsL u T).length = T.length
  | [], T => rfl
  | m :: u, T => by
    show (dropsL u (subL m .none T)).length = _
    rw [dropsL_length u, subL_length]
theorem dropV_clean : ∀ {u : List Nat} {d : DV}, disjB u d.rows = true → dropV u d = d
  | [], d, h => rfl
  | m :: u, d, h => by
    rw [disjB_iff] at h
    show dropV u (d.sub m .none) = d
    rw [DV.sub_clean d (h m (List.mem_cons_self ..))]
    exact dropV_clean (disjB_iff.2 fun k hk => h k (List.mem_cons_of_mem _ hk))
theorem subL_set (m : Nat) (v : DV) : ∀ (T : List DV) (d : Nat), subL m .none (T.set d v) = (subL m .none T).set d (v.sub m .none)
  | [], d => rfl
  | x :: r, 0 => rfl
  | x :: r, d + 1 => by simp [subL, subL_set m v r d]
theorem dropsL_set : ∀ (u : List Nat) (T : List DV) (d : Nat) (v : DV), dropsL u (T.set d v) = (dropsL u T).set d (dropV u v)
  | [], T, d, v => rfl
  | m :: u, T, d, v => by
    show dropsL u (subL m .none (T.set d v)) = (dropsL u (subL m .none T)).set d (dropV u (v.sub m .none))
    rw [subL_set, dropsL_set u]
theorem dropsL_put {u : List Nat} {T : List DV} {d : Option Tmp} {v : DV} (h : disjB u v.rows = true) : dropsL u (putT T d v) = putT (dropsL u T) d v := by
  cases d with
  | none => rfl
  | some d => simp only [putT]; rw [dropsL_set, dropV_clean h]
theorem dropsL_sub (m : Nat) : ∀ (u : List Nat) (T : List DV), dropsL u (subL m .none T) = subL m .none (dropsL u T)
  | [], T => rfl
  | k :: u, T => by
    show dropsL u (subL k .none (subL m .none T)) = subL m .none (dropsL u (subL k .none T))
    rw [subL_comm, dropsL_sub m u]
theorem dropsL_comm : ∀ (u v : List Nat) (T : List DV), dropsL u (dropsL v T) = dropsL v (dropsL u T)
  | u, [], T => rfl
  | u, m :: v, T => by
    show dropsL u (dropsL v (subL m .none T)) = dropsL v (subL m .none (dropsL u T))
    rw [dropsL_comm u v, dropsL_sub]
theorem act2_of (H : Heap) (a : Actn) : H.act2 (Act2.of a) = H.act a := by
  funext n
  cases a with
  | none => rfl
  | some p =>
    obtain ⟨m, b⟩ := p
    unfold Heap.act2 Act2.of Heap.act Heap.set
    by_cases e : n = m
    · simp [e]
    · simp [e]
      rfl
structure Rec where
  o : Oper
  v : DV
  act : Act2
  r : List Nat
  h : List Nat
  T : List DV
  H : Heap
def Rec.did (e : Rec) : Did := ⟨e.o, e.r, e.act.W, e.act.u, e.h, e.T, e.H⟩
def Rec.eff (e : Rec) (s : St) : St := (putT (dropsL e.act.u s.1) e.o.dst e.v, s.2.act2 e.act)
def accS : Nat → (Nat → Bool) → List Rec → St → St
  | _, _, [], s => s
  | m, S, e :: r, s => accS (m + 1) S r (if S m then e.eff s else s)
def accA : List Rec → St → St
  | [], s => s
  | e :: r, s => accA r (e.eff s)
def Agr (L : List Tmp) (N : Nat → Prop) (s s' : St) : Prop := s.1.length = s'.1.length ∧ (∀ t ∈ L, s.1.getD t .undef = s'.1.getD t .undef) ∧ ∀ n, N n → s.2 n = s'.2 n
def Off (e : Rec) (L : List Tmp) (N : Nat → Prop) (s : St) : Prop := (∀ d, e.o.dst = some d → d ∉ L) ∧ (∀ n ∈ e.act.W, ¬ N n) ∧ (∀ n, N n → dropBk e.act.u n (s.2 n) = s.2 n) ∧ ∀ t ∈ L, dropV e.act.u (s.1.getD t .undef) = s.1.getD t .undef
section
variable {L : List Tmp} {N : Nat → Prop} {s s' : St} {e : Rec} {S S' : Nat → Bool}
theorem put_getD {T : List DV} {d : Option Tmp} {v : DV} {t : Nat} (h : ∀ x, d = some x → x ≠ t) : (putT T d v).getD t .undef = T.getD t .undef := by
  cases d with
  | none => rfl
  | some d =>
    have : d ≠ t := h d rfl
    simp [putT, List.getD_eq_getElem?_getD, List.getElem?_set, this]
theorem put_length (T : List DV) (d : Option Tmp) (v : DV) : (putT T d v).length = T.length := by cases d <;> simp [putT]
theorem Agr.both (h : Agr L N s s') (e : Rec) : Agr L N (e.eff s) (e.eff s') := by
  obtain ⟨h1, h2, h3⟩ := h
  refine ⟨?_, fun t ht => ?_, fun n hn => ?_⟩
  · simp only [Rec.eff, put_length, dropsL_length, h1]
  · simp only [Rec.eff]
    by_cases hd : e.o.dst = some t
    · rw [hd]
      simp only [putT, List.getD_eq_getElem?_getD, List.getElem?_set, dropsL_length, h1, if_true]
    · have hne : ∀ x, e.o.dst = some x → x ≠ t := fun x hx e' => hd (by rw [hx, e'])
      rw [put_getD hne, put_getD hne, dropsL_getD, dropsL_getD, h2 t ht]
  · simp only [Rec.eff, Heap.act2]
    split
    · rfl
    · rw [drops_at, drops_at, h3 n hn]
theorem Agr.right (h : Agr L N s s') (hf : Off e L N s) : Agr L N s (e.eff s') := by
  obtain ⟨h1, h2, h3⟩ := h
  refine ⟨?_, fun t ht => ?_, fun n hn => ?_⟩
  · simp only [Rec.eff, put_length, dropsL_length, h1]
  · simp only [Rec.eff]
    rw [put_getD (fun x hx e' => hf.1 x hx (e' ▸ ht)), dropsL_getD, ← h2 t ht, hf.2.2.2 t ht]
  · simp only [Rec.eff, Heap.act2]
    rw [if_neg (fun hc => hf.2.1 n (by simpa using hc) hn), drops_at, ← h3 n hn, hf.2.2.1 n hn]
theorem Agr.symm (h : Agr L N s s') : Agr L N s' s := ⟨h.1.symm, fun t ht => (h.2.1 t ht).symm, fun n hn => (h.2.2 n hn).symm⟩
theorem Agr.left (h : Agr L N s s') (hf : Off e L N s) : Agr L N (e.eff s) s' := by
  refine (h.symm.right ⟨hf.1, hf.2.1, fun n hn => ?_, fun t ht => ?_⟩).symm
  · rw [← h.2.2 n hn]
    exact hf.2.2.1 n hn
  · rw [← h.2.1 t ht]
    exact hf.2.2.2 t ht
theorem agr_pre : ∀ {l : List Rec} {m : Nat} {s s' : St}, Agr L N s s' → (∀ i e, l[i]? = some e → S (m + i) = false → Off e L N (accA (l.take i) s)) → Agr L N (accA l s) (accS m S l s')
  | [], _, _, _, h, _ => h
  | e :: r, m, s, s', h, hO => by
    simp only [accA, accS]
    refine agr_pre ?_ (fun i e' h1 h2 => hO (i + 1) e' h1 (by rw [← h2]; congr 1; omega))
    split
    · exact h.both e
    · rename_i hS
      exact h.left (hO 0 e rfl (by simpa using hS))
theorem agr_suf : ∀ {l : List Rec} {m : Nat} {s s' : St}, Agr L N s s' → (∀ i e, l[i]? = some e → S (m + i) = true → Off e L N s) → Agr L N s (accS m S l s')
  | [], _, _, _, h, _ => h
  | e :: r, m, s, s', h, hO => by
    simp only [accS]
    refine agr_suf ?_ (fun i e' h1 h2 => hO (i + 1) e' h1 (by rw [← h2]; congr 1; omega))
    split
    · rename_i hS
      exact h.right (hO 0 e rfl (by simpa using hS))
    · exact h
theorem accS_append : ∀ {l l' : List Rec} {m : Nat} {s : St}, accS m S (l ++ l') s = accS (m + l.length) S l' (accS m S l s)
  | [], _, _, _ => rfl
  | e :: r, l', m, s => by
    simp only [List.cons_append, accS, List.length_cons]
    rw [accS_append]
    congr 1
    omega
theorem accA_append : ∀ {l l' : List Rec} {s : St}, accA (l ++ l') s = accA l' (accA l s)
  | [], _, _ => rfl
  | e :: r, l', s => by simp only [List.cons_append, accA]; exact accA_append
theorem accS_congr : ∀ {l : List Rec} {m : Nat} {s : St}, (∀ i, i < l.length → S (m + i) = S' (m + i)) → accS m S l s = accS m S' l s
  | [], _, _, _ => rfl
  | e :: r, m, s, h => by
    simp only [accS]
    rw [show S m = S' m from h 0 (by simp), accS_congr (l := r) (m := m + 1) (fun i hi => by
      have := h (i + 1) (by simp; omega)
      rw [show m + 1 + i = m + (i + 1) by omega]
      exact this)]
theorem accS_all : ∀ {l : List Rec} {m : Nat} {s : St}, (∀ i, i < l.length → S (m + i) = true) → accS m S l s = accA l s
  | [], _, _, _ => rfl
  | e :: r, m, s, h => by
    simp only [accS, accA]
    rw [show S m = true from h 0 (by simp), if_pos rfl, accS_all (l := r) (m := m + 1) (fun i hi => by
      have := h (i + 1) (by simp; omega)
      rw [show m + 1 + i = m + (i + 1) by omega]
      exact this)]
def Com (e f : Rec) : Prop := (∀ d, e.o.dst = some d → f.o.dst ≠ some d) ∧ (∀ n ∈ e.act.W, n ∉ f.act.W) ∧ (∀ n ∈ e.act.W, dropBk f.act.u n (e.act.B n) = e.act.B n) ∧ (∀ n ∈ f.act.W, dropBk e.act.u n (f.act.B n) = f.act.B n) ∧ disjB e.act.u f.v.rows = true ∧ disjB f.act.u e.v.rows = true
theorem Com.eff {e f : Rec} (h : Com e f) (s : St) : f.eff (e.eff s) = e.eff (f.eff s) := by
  obtain ⟨h1, h2, h3, h4, h5, h6⟩ := h
  simp only [Rec.eff, Prod.mk.injEq]
  constructor
  · rw [dropsL_put h6, dropsL_put h5, dropsL_comm]
    cases he : e.o.dst with
    | none => rfl
    | some d =>
      cases hf : f.o.dst with
      | none => rfl
      | some d' =>
        have : d ≠ d' := fun e' => h1 d he (e' ▸ hf)
        simp only [putT]
        exact List.set_comm _ _ this
  · funext n
    simp only [Heap.act2, drops_at]
    by_cases he : n ∈ e.act.W
    · have hf : n ∉ f.act.W := h2 n he
      have c1 : e.act.W.contains n = true := by simpa using he
      have c2 : ¬ f.act.W.contains n = true := by simpa using hf
      rw [if_neg c2, if_pos c1, if_pos c1, h3 n he]
    · have c1 : ¬ e.act.W.contains n = true := by simpa using he
      by_cases hf : n ∈ f.act.W
      · have c2 : f.act.W.contains n = true := by simpa using hf
        rw [if_pos c2, if_neg c1, if_pos c2, h4 n hf]
      · have c2 : ¬ f.act.W.contains n = true := by simpa using hf
        rw [if_neg c2, if_neg c1, if_neg c1, if_neg c2]
        exact dropBk_comm n _ _ _
theorem accS_com : ∀ {l : List Rec} {m : Nat} {s : St}, (∀ i f, l[i]? = some f → S (m + i) = true → Com e f) → accS m S l (e.eff s) = e.eff (accS m S l s)
  | [], _, _, _ => rfl
  | f :: r, m, s, h => by
    simp only [accS]
    have hr := accS_com (l := r) (m := m + 1) (s := if S m then f.eff s else s) (fun i f' h1 h2 => h (i + 1) f' h1 (by rw [← h2]; congr 1; omega))
    rw [← hr]
    congr 1
    split
    · rename_i hS
      exact (h 0 f rfl (by simpa using hS)).eff s
    · rfl
theorem accS_put {l : List Rec} {m j : Nat} {s : St} (hj : l[j]? = some e) (hS : S (m + j) = false) (hc : ∀ k f, j < k → l[k]? = some f → S (m + k) = true → Com e f) : accS m (fun i => S i || i == m + j) l s = e.eff (accS m S l s) := by
  have hlt := (List.getElem?_eq_some_iff.1 hj).1
  have hsplit : l = l.take j ++ e :: l.drop (j + 1) := by
    have : l[j] = e := (List.getElem?_eq_some_iff.1 hj).2
    rw [← this, List.getElem_cons_drop, List.take_append_drop]
  have hlen : (l.take j).length = j := by simp; omega
  generalize hp : l.take j = p at hsplit hlen
  generalize hq : l.drop (j + 1) = q at hsplit
  subst hsplit
  simp only [accS_append, accS, hlen, hS, beq_self_eq_true, Bool.or_true, if_true, Bool.false_eq_true, if_false]
  rw [accS_congr (S := fun i => S i || i == m + j) (S' := S) (l := p) (m := m) (fun i hi => by
      have : (m + i == m + j) = false := by rw [beq_eq_false_iff_ne]; omega
      simp only [this, Bool.or_false]),
    accS_congr (S := fun i => S i || i == m + j) (S' := S) (l := q) (m := m + j + 1) (fun i hi => by
      have : (m + j + 1 + i == m + j) = false := by rw [beq_eq_false_iff_ne]; omega
      simp only [this, Bool.or_false])]
  refine accS_com fun i f h1 h2 => hc (j + 1 + i) f (by omega) ?_ (by rw [← h2]; congr 1; omega)
  rw [List.getElem?_append_right (by omega), hlen, show j + 1 + i - j = i + 1 by omega]
  exact h1
theorem accS_agr {l : List Rec} {m j : Nat} {s : St} (hj : l[j]? = some e) (hS : S (m + j) = false) (h1 : ∀ i f, i < j → l[i]? = some f → S (m + i) = false → Off f L N (accA (l.take i) s)) (h2 : ∀ k f, j < k → l[k]? = some f → S (m + k) = true → Off f L N (accA (l.take j) s)) : Agr L N (accA (l.take j) s) (accS m S l s) := by
  have hlt := (List.getElem?_eq_some_iff.1 hj).1
  have hsplit : l = l.take j ++ e :: l.drop (j + 1) := by
    have : l[j] = e := (List.getElem?_eq_some_iff.1 hj).2
    rw [← this, List.getElem_cons_drop, List.take_append_drop]
  have hlen : (l.take j).length = j := by simp; omega
  have htk : ∀ i, i < j → (l.take j).take i = l.take i := fun i hi => by rw [List.take_take, Nat.min_eq_left (by omega)]
  generalize hp : l.take j = p at *
  generalize hq : l.drop (j + 1) = q at hsplit
  have h1' : ∀ i f, i < j → l[i]? = some f → S (m + i) = false → Off f L N (accA (p.take i) s) := fun i f g1 g2 g3 => by rw [htk i g1]; exact h1 i f g1 g2 g3
  subst hsplit
  simp only [accS_append, accS, hlen, hS, Bool.false_eq_true, if_false]
  refine agr_suf (agr_pre ⟨rfl, fun _ _ => rfl, fun _ _ => rfl⟩ fun i f g1 g2 => ?_) fun i f g1 g2 => ?_
  · have hi := (List.getElem?_eq_some_iff.1 g1).1
    exact h1' i f (by omega) (by rw [List.getElem?_append_left hi]; exact g1) g2
  · refine h2 (j + 1 + i) f (by omega) ?_ (by rw [← g2]; congr 1; omega)
    rw [List.getElem?_append_right (by omega), hlen, show j + 1 + i - j = i + 1 by omega]
    exact g1
end
section
variable {α : Type} (cx : Cx) (d : Nat) (ops : Array Oper)
def wantD (o : Oper) (T : List DV) : Option Bool := match o.guard with
  | none => some true
  | some (j, want) => match (ops[j]?).bind (·.dst) with
    | some g => match T.getD g .undef with
      | .sc (.bool b) => some (b == want)
      | .tup [] => some false
      | _ => none
    | none => none
def StepR (o : Oper) (T : List DV) (H : Heap) (v : DV) (act : Act2) : Prop :=
  (∃ a, opE cx.P d o T H (fun v a => some (v, a)) = some (v, a) ∧ act = Act2.of a) ∨
  (∃ c f g x y S X m Y, o.op = .call c ∧ c.callee = .value f ∧ evO T f = .fn (.func g) x y ∧ entersB cx.P g = true ∧ S ∈ cx.specs g ∧ FS.pure S = true ∧ S.tin.pr ⟨[], []⟩ (x ++ c.args.toList.map (evO T) ++ y) (fun _ => none) = some (X, m) ∧ S.fn X = some Y ∧ v = tupD (S.tout.T nam0 (S.out Y)) ∧ act = Act2.of none) ∨
  ∃ c f g x y, o.op = .call c ∧ c.callee = .value f ∧ evO T f = .fn (.func g) x y ∧ tabVal cx g (x ++ c.args.toList.map (evO T) ++ y) = some v ∧ act = Act2.of none
def StepC (o : Oper) (T : List DV) (H : Heap) (v : DV) (act : Act2) : Prop :=
  ∃ c f g x y S X m Y b, o.op = .call c ∧ c.callee = .value f ∧ evO T f = .fn (.func g) x y ∧ entersB cx.P g = true ∧ S ∈ cx.specs g ∧ S.tin.pr ⟨[], []⟩ (x ++ c.args.toList.map (evO T) ++ y) H = some (X, m) ∧ S.fn X = some Y ∧ S.tout.free (nam1 b m) ((Heap.drops m.u H).away m) = true ∧ v = tupD (S.tout.T (nam1 b m) (S.out Y)) ∧ act = ⟨m.u, m.σ.map (·.2) ++ m.u ++ S.tout.names (nam1 b m), S.tout.H (nam1 b m) (S.out Y) fun _ => none⟩
def StepP (o : Oper) (T : List DV) (H : Heap) (v : DV) (act : Act2) : Prop :=
  ∃ c x y t e s ys, o.op = .call c ∧ c.callee = .builtin .append ∧ c.args.toList = [x, y] ∧ c.argTypes.toList = [t, t] ∧ cx.P.underlying t = some (.slice e) ∧ shapeOf cx.P 8 e = some s ∧ zeroOk cx.P e s = true ∧ elemsD H s (evO T y) = some ys ∧ appendS cx.P d o e s (evO T x) ys H (fun v a => some (v, a)) = some (v, act)
def StepE (o : Oper) (T : List DV) (H : Heap) (v : DV) (act : Act2) : Prop :=
  ∃ b, wantD ops o T = some b ∧ ((b = true ∧ StepR cx d o T H v act) ∨ (b = false ∧ v = .tup [] ∧ act = Act2.of none))
def StepS (o : Oper) (T : List DV) (H : Heap) (v : DV) (act : Act2) : Prop := wantD ops o T = some true ∧ StepC cx o T H v act
def StepA (o : Oper) (T : List DV) (H : Heap) (v : DV) (act : Act2) : Prop := wantD ops o T = some true ∧ StepP cx d o T H v act
end
section
variable {α : Type} {cx : Cx} {d : Nat} {ops : Array Oper} {o : Oper} {T T' : List DV} {H H' : Heap} {v : DV} {act : Act2}
theorem wantD_loc (h : ∀ t ∈ o.looksAt ops, T.getD t .undef = T'.getD t .undef) : wantD ops o T = wantD ops o T' := by
  unfold wantD
  split
  · rfl
  · rename_i j want hg
    split
    · rename_i g hj
      rw [h g (by simp [Oper.looksAt, hg, hj])]
    · rfl
theorem stepE_loc (h : Agr (o.looksAt ops) (fun n => n ∈ readsD T o ∨ inBase d o n = true) (T, H) (T', H')) (hs : StepE cx d ops o T H v act) : StepE cx d ops o T' H' v act := by
  obtain ⟨h1, h2, h3⟩ := h
  have hop : ∀ x ∈ o.op.operands.toList, evO T x = evO T' x := by
    intro x hx
    cases x with
    | tmp t => exact h2 t (List.mem_append_left _ (List.mem_filterMap.2 ⟨.tmp t, hx, rfl⟩))
    | _ => rfl
  obtain ⟨b, g1, g2⟩ := hs
  refine ⟨b, by rw [← wantD_loc h2]; exact g1, g2.imp (fun g => ⟨g.1, ?_⟩) id⟩
  rcases g.2 with ⟨ac, k, kk⟩ | ⟨c, f, g, x, y, S, X, m, Y, k1, k2, k3, k4, k5, k6, k7, k8⟩ | ⟨c, f, g, x, y, k1, k2, k3, k4, k5⟩
  · refine .inl ⟨ac, ?_, kk⟩
    rw [← opE_loc hop (fun n hn => h3 n (.inl hn)) (fun hb n n1 n2 => h3 n (.inr (by simp [inBase, hb, n1, n2])))]
    exact k
  · have hf : evO T f = evO T' f := hop f (by rw [k1]; simp [Op.operands, Call.operands, k2])
    have hA : c.args.toList.map (evO T) = c.args.toList.map (evO T') := List.map_congr_left fun x hx => hop x (by rw [k1]; simp [Op.operands, Call.operands, Array.mem_toList_iff.1 hx])
    exact .inr (.inl ⟨c, f, g, x, y, S, X, m, Y, k1, k2, hf ▸ k3, k4, k5, k6, hA ▸ k7, k8⟩)
  · have hf : evO T f = evO T' f := hop f (by rw [k1]; simp [Op.operands, Call.operands, k2])
    have hA : c.args.toList.map (evO T) = c.args.toList.map (evO T') := List.map_congr_left fun x hx => hop x (by rw [k1]; simp [Op.operands, Call.operands, Array.mem_toList_iff.1 hx])
    exact .inr (.inr ⟨c, f, g, x, y, k1, k2, hf ▸ k3, hA ▸ k4, k5⟩)
theorem rowOf_loc {H H' : Heap} {E : TypeId} {s : Sh} {d : DV} {xs : List s.T} {u : List Nat} (h : rowOf H E s d = some (xs, u)) (he : ∀ n ∈ u, H n = H' n) : rowOf H' E s d = some (xs, u) := by
  cases d
  case rw n =>
    simp only [rowOf] at h ⊢
    cases hb : H n with
    | none => rw [hb] at h; cases h
    | some b =>
      have hn : n ∈ u := by
        rw [hb] at h
        cases b <;> simp only at h <;> try cases h
        split at h
        · split at h
          · simp only [Option.some.injEq, Prod.mk.injEq] at h
            rw [← h.2]; simp
          · cases h
        · cases h
      rw [← he n hn]
      exact h
  case sl n o l =>
    simp only [rowOf] at h ⊢
    cases hb : H n with
    | none => rw [hb] at h; cases h
    | some b =>
      have hn : n ∈ u := by
        rw [hb] at h
        cases b <;> simp only at h <;> try cases h
        split at h
        · split at h
          · split at h
            · simp only [Option.some.injEq, Prod.mk.injEq] at h
              rw [← h.2]; simp
            · cases h
          · cases h
        · cases h
      rw [← he n hn]
      exact h
  case sc v =>
    cases v with
    | slice a n c =>
      cases a with
      | none => exact h
      | some a => simp only [rowOf] at h; cases h
    | _ => simp only [rowOf] at h; cases h
  all_goals (simp only [rowOf] at h; cases h)
theorem prP_le : ∀ {l : List Nat} {T : List DV} {m m' : Met}, prP l T m = some m' → m'.u = m.u ∧ ∀ e ∈ m.σ, e ∈ m'.σ
  | [], T, m, m', h => by
    simp only [prP] at h
    split at h
    · simp only [Option.some.injEq] at h; subst h; exact ⟨rfl, fun e he => he⟩
    · cases h
  | i :: r, T, m, m', h => by
    simp only [prP] at h
    split at h
    · split at h
      · split at h
        · exact prP_le h
        · cases h
      · obtain ⟨h1, h2⟩ := prP_le h
        exact ⟨h1, fun e he => h2 e (List.mem_cons_of_mem _ he)⟩
    · cases h
def Met.le (m m' : Met) : Prop := (∀ n ∈ m.u, n ∈ m'.u) ∧ ∀ e ∈ m.σ, e ∈ m'.σ
theorem Met.le.refl (m : Met) : m.le m := ⟨fun _ h => h, fun _ h => h⟩
theorem Met.le.trans {a b c : Met} (h : a.le b) (k : b.le c) : a.le c := ⟨fun n hn => k.1 n (h.1 n hn), fun e he => k.2 e (h.2 e he)⟩
theorem prT_le {H : Heap} : ∀ {ks : List IK} {T : List DV} {m m' : Met} {x : Tup ks}, prT H ks T m = some (x, m') → m.le m'
  | [], T, m, m', x, h => by
    simp only [prT] at h
    split at h
    · simp only [Option.some.injEq, Prod.mk.injEq] at h; rw [h.2]; exact .refl _
    · cases h
  | .any :: r, T, m, m', x, h => by
    simp only [prT] at h
    split at h
    · exact prT_le h
    · cases h
  | .val s :: r, T, m, m', x, h => by
    simp only [prT] at h
    split at h
    · split at h
      · split at h
        · rename_i hz
          simp only [Option.some.injEq, Prod.mk.injEq] at h
          rw [← h.2]
          exact prT_le hz
        · cases h
      · cases h
    · cases h
  | .agf s F :: r, T, m, m', x, h => by
    simp only [prT] at h
    split at h
    · split at h
      · split at h
        · split at h
          · rename_i hz
            simp only [Option.some.injEq, Prod.mk.injEq] at h
            rw [← h.2]
            exact prT_le hz
          · cases h
        · cases h
      · cases h
    · cases h
  | .row E s :: r, T, m, m', x, h => by
    simp only [prT] at h
    split at h
    · split at h
      · split at h
        · rename_i hz
          simp only [Option.some.injEq, Prod.mk.injEq] at h
          rw [← h.2]
          exact Met.le.trans (b := ⟨m.σ, _ ++ m.u⟩) ⟨fun n hn => List.mem_append_right _ hn, fun e he => he⟩ (prT_le hz)
        · cases h
      · cases h
    · cases h
  | .obj i :: r, T, m, m', x, h => by
    simp only [prT] at h
    split at h
    · split at h
      · split at h
        · exact prT_le h
        · cases h
      · exact Met.le.trans (b := ⟨_ :: m.σ, m.u⟩) ⟨fun n hn => hn, fun e he => List.mem_cons_of_mem _ he⟩ (prT_le h)
    · cases h
  | .clo F is :: r, T, m, m', x, h => by
    simp only [prT] at h
    split at h
    · split at h
      · split at h
        · rename_i hp
          obtain ⟨h1, h2⟩ := prP_le hp
          exact Met.le.trans ⟨fun n hn => by rw [h1]; exact hn, h2⟩ (prT_le h)
        · cases h
      · cases h
    · cases h
  | .tab ks vs :: r, T, m, m', x, h => by simp only [prT] at h; cases h
theorem prC_le {H : Heap} : ∀ {ks : List IK} {T : List DV} {m m' : Met} {x : Tup ks}, prC H ks T m = some (x, m') → m.le m'
  | [], T, m, m', x, h => by
    simp only [prC] at h
    split at h
    · simp only [Option.some.injEq, Prod.mk.injEq] at h; rw [h.2]; exact .refl _
    · cases h
  | .any :: r, T, m, m', x, h => by
    simp only [prC] at h
    split at h
    · cases h
    · exact prC_le h
    · cases h
  | .val s :: r, T, m, m', x, h => by
    simp only [prC] at h
    split at h
    · split at h
      · rename_i hz
        simp only [Option.some.injEq, Prod.mk.injEq] at h
        rw [← h.2]
        exact prC_le hz
      · cases h
    · cases h
  | .agf s F :: r, T, m, m', x, h => by
    simp only [prC] at h
    split at h
    · split at h
      · split at h
        · rename_i hz
          simp only [Option.some.injEq, Prod.mk.injEq] at h
          rw [← h.2]
          exact prC_le hz
        · cases h
      · cases h
    · cases h
  | .row E s :: r, T, m, m', x, h => by
    simp only [prC] at h
    split at h
    · split at h
      · split at h
        · rename_i hz
          simp only [Option.some.injEq, Prod.mk.injEq] at h
          rw [← h.2]
          exact Met.le.trans (b := ⟨m.σ, _ ++ m.u⟩) ⟨fun n hn => List.mem_append_right _ hn, fun e he => he⟩ (prC_le hz)
        · cases h
      · cases h
    · cases h
  | .obj i :: r, T, m, m', x, h => by
    simp only [prC] at h
    split at h
    · split at h
      · split at h
        · exact prC_le h
        · cases h
      · exact Met.le.trans (b := ⟨_ :: m.σ, m.u⟩) ⟨fun n hn => hn, fun e he => List.mem_cons_of_mem _ he⟩ (prC_le h)
    · cases h
  | .clo F is :: r, T, m, m', x, h => by
    simp only [prC] at h
    split at h
    · split at h
      · split at h
        · rename_i hp
          obtain ⟨h1, h2⟩ := prP_le hp
          exact Met.le.trans ⟨fun n hn => by rw [h1]; exact hn, h2⟩ (prC_le h)
        · cases h
      · cases h
    · cases h
  | .tab ks vs :: r, T, m, m', x, h => by simp only [prC] at h; cases h
theorem prO_le {H : Heap} : ∀ {os : List (List IK)} {i : Nat} {m m' : Met} {x : TupO os}, prO H i os m = some (x, m') → m.le m'
  | [], i, m, m', x, h => by
    simp only [prO, Option.some.injEq, Prod.mk.injEq] at h; rw [h.2]; exact .refl _
  | k :: r, i, m, m', x, h => by
    simp only [prO] at h
    split at h
    · split at h
      · split at h
        · rename_i hc
          split at h
          · rename_i hz
            simp only [Option.some.injEq, Prod.mk.injEq] at h
            rw [← h.2]
            exact (prC_le hc).trans (prO_le hz)
          · cases h
        · cases h
      · cases h
    · cases h
theorem prT_loc {H H' : Heap} : ∀ {ks : List IK} {T : List DV} {m m' : Met} {x : Tup ks}, prT H ks T m = some (x, m') → (∀ n ∈ m'.u, H n = H' n) → prT H' ks T m = some (x, m')
  | [], T, m, m', x, h, he => h
  | .any :: r, T, m, m', x, h, he => by
    simp only [prT] at h ⊢
    split at h
    · exact prT_loc h he
    · cases h
  | .val s :: r, T, m, m', x, h, he => by
    simp only [prT] at h ⊢
    split at h
    · split at h
      · rename_i hv
        split at h
        · rename_i hz
          simp only [Option.some.injEq, Prod.mk.injEq] at h
          obtain ⟨h1, rfl⟩ := h
          simp only [hv, prT_loc hz he, h1]
        · cases h
      · cases h
    · cases h
  | .agf s F :: r, T, m, m', x, h, he => by
    simp only [prT] at h ⊢
    split at h
    · split at h
      · rename_i hv
        split at h
        · rename_i hF
          split at h
          · rename_i hz
            simp only [Option.some.injEq, Prod.mk.injEq] at h
            obtain ⟨h1, rfl⟩ := h
            simp only [hv, hF, if_true, prT_loc hz he, h1]
          · cases h
        · cases h
      · cases h
    · cases h
  | .row E s :: r, T, m, m', x, h, he => by
    simp only [prT] at h ⊢
    split at h
    · split at h
      · rename_i hv
        split at h
        · rename_i hz
          simp only [Option.some.injEq, Prod.mk.injEq] at h
          obtain ⟨h1, rfl⟩ := h
          have hle := (prT_le hz).1
          simp only [rowOf_loc hv fun n hn => he n (hle n (List.mem_append_left _ hn)), prT_loc hz he, h1]
        · cases h
      · cases h
    · cases h
  | .obj i :: r, T, m, m', x, h, he => by
    simp only [prT] at h ⊢
    split at h
    · split at h
      · rename_i hg
        split at h
        · rename_i hn
          simp only [hg, hn, if_true]
          exact prT_loc h he
        · cases h
      · exact prT_loc h he
    · cases h
  | .clo F is :: r, T, m, m', x, h, he => by
    simp only [prT] at h ⊢
    split at h
    · split at h
      · rename_i hF
        split at h
        · rename_i hp
          simp only [hF, if_true, hp]
          exact prT_loc h he
        · cases h
      · cases h
    · cases h
  | .tab ks vs :: r, T, m, m', x, h, he => by simp only [prT] at h; cases h
theorem prC_loc {H H' : Heap} : ∀ {ks : List IK} {T : List DV} {m m' : Met} {x : Tup ks}, prC H ks T m = some (x, m') → (∀ n ∈ m'.u, H n = H' n) → prC H' ks T m = some (x, m')
  | [], T, m, m', x, h, he => h
  | .any :: r, T, m, m', x, h, he => by
    simp only [prC] at h ⊢
    split at h
    · cases h
    · exact prC_loc h he
    · cases h
  | .val s :: r, T, m, m', x, h, he => by
    simp only [prC] at h ⊢
    split at h
    · rename_i hv
      split at h
      · rename_i hz
        simp only [Option.some.injEq, Prod.mk.injEq] at h
        obtain ⟨h1, rfl⟩ := h
        simp only [hv, prC_loc hz he, h1]
      · cases h
    · cases h
  | .agf s F :: r, T, m, m', x, h, he => by
    simp only [prC] at h ⊢
    split at h
    · rename_i hv
      split at h
      · rename_i hF
        split at h
        · rename_i hz
          simp only [Option.some.injEq, Prod.mk.injEq] at h
          obtain ⟨h1, rfl⟩ := h
          simp only [hv, hF, if_true, prC_loc hz he, h1]
        · cases h
      · cases h
    · cases h
  | .row E s :: r, T, m, m', x, h, he => by
    simp only [prC] at h ⊢
    split at h
    · split at h
      · rename_i hv
        split at h
        · rename_i hz
          simp only [Option.some.injEq, Prod.mk.injEq] at h
          obtain ⟨h1, rfl⟩ := h
          have hle := (prC_le hz).1
          simp only [rowOf_loc hv fun n hn => he n (hle n (List.mem_append_left _ hn)), prC_loc hz he, h1]
        · cases h
      · cases h
    · cases h
  | .obj i :: r, T, m, m', x, h, he => by
    simp only [prC] at h ⊢
    split at h
    · split at h
      · rename_i hg
        split at h
        · rename_i hn
          simp only [hg, hn, if_true]
          exact prC_loc h he
        · cases h
      · exact prC_loc h he
    · cases h
  | .clo F is :: r, T, m, m', x, h, he => by
    simp only [prC] at h ⊢
    split at h
    · split at h
      · rename_i hF
        split at h
        · rename_i hp
          simp only [hF, if_true, hp]
          exact prC_loc h he
        · cases h
      · cases h
    · cases h
  | .tab ks vs :: r, T, m, m', x, h, he => by simp only [prC] at h; cases h
theorem get_mem {m : Met} {i n : Nat} (h : m.get i = some n) : (i, n) ∈ m.σ := by
  unfold Met.get at h
  obtain ⟨e, h1, h2⟩ := Option.map_eq_some_iff.1 h
  have h3 := List.find?_some h1
  have h4 := List.mem_of_find?_eq_some h1
  simp only [beq_iff_eq] at h3
  obtain ⟨a, b⟩ := e
  simp only at h2 h3
  rw [← h2, ← h3]
  exact h4
theorem prO_loc {H H' : Heap} : ∀ {os : List (List IK)} {i : Nat} {m m' : Met} {x : TupO os}, prO H i os m = some (x, m') → (∀ n, n ∈ m'.u ∨ n ∈ m'.σ.map (·.2) → H n = H' n) → prO H' i os m = some (x, m')
  | [], i, m, m', x, h, he => h
  | k :: r, i, m, m', x, h, he => by
    simp only [prO] at h ⊢
    split at h
    · rename_i n hg
      split at h
      · rename_i cs hn
        split at h
        · rename_i hc
          split at h
          · rename_i hz
            simp only [Option.some.injEq, Prod.mk.injEq] at h
            obtain ⟨h1, rfl⟩ := h
            have l1 := prC_le hc
            have l2 := prO_le hz
            have hH : H n = H' n := he n (.inr (List.mem_map.2 ⟨_, l2.2 _ (l1.2 _ (get_mem hg)), rfl⟩))
            simp only [hg, ← hH, hn, prC_loc hc fun n hn => he n (.inl (l2.1 n hn)), prO_loc hz he, h1]
          · cases h
        · cases h
      · cases h
    · cases h
theorem pr_loc {t : Tmpl} {A : List DV} {H H' : Heap} {m0 m : Met} {X : t.Ty} (h : t.pr m0 A H = some (X, m)) (he : ∀ n, n ∈ m.u ∨ n ∈ m.σ.map (·.2) → H n = H' n) : t.pr m0 A H' = some (X, m) := by
  unfold Tmpl.pr at h ⊢
  split at h
  · rename_i h1
    split at h
    · rename_i h2
      split at h
      · rename_i h3
        simp only [Option.some.injEq, Prod.mk.injEq] at h
        obtain ⟨h4, rfl⟩ := h
        simp only [prT_loc h1 fun n hn => he n (.inl ((prO_le h2).1 n hn)), prO_loc h2 he, h3, if_true, h4]
      · cases h
    · cases h
  · cases h
theorem pr_key {t : Tmpl} {A : List DV} {H : Heap} {m0 m : Met} {X : t.Ty} (h : t.pr m0 A H = some (X, m)) : nodupB (m.σ.map (·.1)) = true := by
  unfold Tmpl.pr at h
  split at h
  · split at h
    · split at h
      · rename_i h3
        simp only [Option.some.injEq, Prod.mk.injEq] at h
        simp only [Bool.and_eq_true] at h3
        rw [← h.2]
        exact h3.1.2
      · cases h
    · cases h
  · cases h
theorem away_loc {H H' : Heap} {m : Met} {n : Nat} (h : H n = H' n) : ((Heap.drops m.u H).away m) n = ((Heap.drops m.u H').away m) n := by
  unfold Heap.away
  split
  · rfl
  · rw [drops_at, drops_at, h]
theorem free_loc {t : Tmpl} {ρ : Nam} {H H' : Heap} (h : t.free ρ H = true) (he : ∀ n ∈ t.names ρ, H n = H' n) : t.free ρ H' = true := by
  unfold Tmpl.free at h ⊢
  simp only [Bool.and_eq_true, List.all_eq_true] at h ⊢
  exact ⟨h.1, fun n hn => by rw [← he n hn]; exact h.2 n hn⟩
theorem stepS_loc (h : Agr (o.looksAt ops) (fun n => n ∈ act.W) (T, H) (T', H')) (hs : StepS cx ops o T H v act) : StepS cx ops o T' H' v act := by
  obtain ⟨h1, h2, h3⟩ := h
  have hop : ∀ x ∈ o.op.operands.toList, evO T x = evO T' x := by
    intro x hx
    cases x with
    | tmp t => exact h2 t (List.mem_append_left _ (List.mem_filterMap.2 ⟨.tmp t, hx, rfl⟩))
    | _ => rfl
  obtain ⟨g1, c, f, g, x, y, S, X, m, Y, b, k1, k2, k3, k4, k5, k6, k7, k8, k9, k10⟩ := hs
  have hf : evO T f = evO T' f := hop f (by rw [k1]; simp [Op.operands, Call.operands, k2])
  have hA : c.args.toList.map (evO T) = c.args.toList.map (evO T') := List.map_congr_left fun x hx => hop x (by rw [k1]; simp [Op.operands, Call.operands, Array.mem_toList_iff.1 hx])
  have hW : ∀ n, n ∈ m.σ.map (·.2) ∨ n ∈ m.u ∨ n ∈ S.tout.names (nam1 b m) → H n = H' n := fun n hn => h3 n (by
    show n ∈ act.W
    rw [k10]
    simp only [List.mem_append]
    rcases hn with hn | hn | hn
    · exact .inl (.inl hn)
    · exact .inl (.inr hn)
    · exact .inr hn)
  refine ⟨by rw [← wantD_loc h2]; exact g1, c, f, g, x, y, S, X, m, Y, b, k1, k2, hf ▸ k3, k4, k5, ?_, k7, ?_, k9, k10⟩
  · rw [← hA]
    exact pr_loc k6 fun n hn => hW n (hn.elim (fun h => .inr (.inl h)) .inl)
  · exact free_loc k8 fun n hn => away_loc (hW n (.inr (.inr hn)))
theorem elemsD_loc {s : Sh} {y : DV} {ys : List s.T} (h : elemsD H s y = some ys) (he : ∀ n ∈ nmD y, H n = H' n) : elemsD H' s y = some ys := by
  cases y
  case rw n =>
    have := he n (by simp [nmD])
    simp only [elemsD] at h ⊢
    rw [← this]; exact h
  case sl n o l =>
    have := he n (by simp [nmD])
    simp only [elemsD] at h ⊢
    rw [← this]; exact h
  case sc v =>
    cases v with
    | slice a n c =>
      cases a with
      | none => exact h
      | some a => simp only [elemsD] at h; cases h
    | _ => simp only [elemsD] at h; cases h
  case vs s' xs => exact h
  all_goals (simp only [elemsD] at h; cases h)
theorem appendS_nat {P : Program} {E : TypeId} {s : Sh} {x : DV} {ys : List s.T} {k : DV → Act2 → Option α} : appendS P d o E s x ys H k = (appendS P d o E s x ys H fun v a => some (v, a)).bind fun e => k e.1 e.2 := by
  unfold appendS
  repeat' split
  all_goals rfl
theorem appendS_loc {P : Program} {E : TypeId} {s : Sh} {x : DV} {ys : List s.T} {p : DV × Act2} (h : appendS P d o E s x ys H (fun v a => some (v, a)) = some p) (he : ∀ n, n ∈ nmD x ∨ n ∈ p.2.W → H n = H' n) : appendS P d o E s x ys H' (fun v a => some (v, a)) = some p := by
  cases x
  case rw n =>
    have := he n (.inl (by simp [nmD]))
    simp only [appendS] at h ⊢
    rw [← this]; exact h
  case sl n o l =>
    have := he n (.inl (by simp [nmD]))
    simp only [appendS] at h ⊢
    rw [← this]; exact h
  case sc v =>
    cases v with
    | slice a n c =>
      cases a with
      | none =>
        simp only [appendS] at h ⊢
        split at h
        · rename_i h1
          rw [if_pos h1]
          split at h
          · rename_i h2
            simp only [Option.some.injEq] at h
            have := he (base d o.dst) (.inr (by rw [← h]; simp))
            rw [← this, h2]
            simp only [h]
          · cases h
        · cases h
      | some a => simp only [appendS] at h; cases h
    | _ => simp only [appendS] at h; cases h
  all_goals (simp only [appendS] at h; cases h)
theorem stepA_loc (h : Agr (o.looksAt ops) (fun n => n ∈ readsD T o ++ act.W) (T, H) (T', H')) (hs : StepA cx d ops o T H v act) : StepA cx d ops o T' H' v act := by
  obtain ⟨h1, h2, h3⟩ := h
  have hop : ∀ x ∈ o.op.operands.toList, evO T x = evO T' x := by
    intro x hx
    cases x with
    | tmp t => exact h2 t (List.mem_append_left _ (List.mem_filterMap.2 ⟨.tmp t, hx, rfl⟩))
    | _ => rfl
  obtain ⟨g1, c, x, y, t, e, s, ys, k1, k2, k3, k4, k5, k6, k7, k8, k9⟩ := hs
  have hxm : x ∈ o.op.operands.toList := by rw [k1]; simp [Op.operands, Call.operands, k2, k3]
  have hym : y ∈ o.op.operands.toList := by rw [k1]; simp [Op.operands, Call.operands, k2, k3]
  have hr : ∀ z ∈ o.op.operands.toList, ∀ n ∈ nmD (evO T z), H n = H' n := fun z hz n hn => h3 n (by
    refine List.mem_append_left _ ?_
    unfold readsD
    have hl : looksB o = true := by unfold looksB; rw [k1]
    rw [if_pos hl]
    exact List.mem_flatMap.2 ⟨z, hz, hn⟩)
  refine ⟨by rw [← wantD_loc h2]; exact g1, c, x, y, t, e, s, ys, k1, k2, k3, k4, k5, k6, k7, ?_, ?_⟩
  · rw [← hop y hym]
    exact elemsD_loc k8 (hr y hym)
  · rw [← hop x hxm]
    exact appendS_loc k9 fun n hn => hn.elim (hr x hxm n) (fun hn => h3 n (List.mem_append_right _ hn))
theorem apartD_spec {x y : Did} (h : apartD d ops x y = true) : (∀ n ∈ x.w, n ∉ y.r ∧ n ∉ y.w ∧ inBase d y.o n = false) ∧ (∀ n ∈ y.w, n ∉ x.r ∧ inBase d x.o n = false) ∧ x.o.apart ops y.o = true ∧ (x.u ≠ [] → disjB x.u y.h = true ∧ hasBase y.o = false ∧ (∀ n ∈ y.r, disjB x.u (rowsB (x.H n)) = true) ∧ ∀ t ∈ y.o.looksAt ops, disjB x.u (x.T.getD t .undef).rows = true) ∧ (y.u ≠ [] → disjB y.u x.h = true ∧ hasBase x.o = false) := by
  unfold apartD dynD softB at h
  simp only [Bool.and_eq_true, List.all_eq_true, Bool.or_eq_true, Bool.not_eq_true', List.contains_eq_mem, decide_eq_false_iff_not, List.isEmpty_iff] at h
  obtain ⟨⟨h1, h2, h3, h4⟩, h5⟩ := h
  refine ⟨fun n hn => ?_, fun n hn => ?_, h5, fun hc => ?_, fun hc => ?_⟩
  · obtain ⟨a, b, c⟩ := h1 n hn
    exact ⟨a, b, c⟩
  · exact h2 n hn
  · rcases h3 with h3 | h3
    · exact absurd h3 hc
    · exact ⟨h3.1, h3.2.1, h3.2.2.1, h3.2.2.2⟩
  · rcases h4 with h4 | h4
    · exact absurd h4 hc
    · exact h4
theorem inBase_has {o : Oper} {n : Nat} (h : hasBase o = false) : inBase d o n = false := by unfold inBase; rw [h]; rfl
structure Rec.Fit (ops : Array Oper) (e : Rec) (s : St) : Prop where
  T : e.T = s.1
  H : e.H = s.2
  h : e.h = rowsD ops s.1 s.2 e.o e.v e.r e.act
  u : ∀ n ∈ e.act.u, n ∈ e.act.W
variable {s s' : St}
theorem Rec.Fit.rows {e : Rec} (he : e.Fit ops s) {u : List Nat} (h : disjB u e.h = true) : disjB u e.v.rows = true ∧ (∀ t ∈ e.o.looksAt ops, disjB u (s.1.getD t .undef).rows = true) ∧ (∀ n ∈ e.r, disjB u (rowsB (s.2 n)) = true) ∧ ∀ n ∈ e.act.W, disjB u (rowsB (e.act.B n)) = true := by
  rw [he.h, disjB_iff] at h
  unfold rowsD at h
  simp only [List.mem_append, not_or, List.mem_flatMap, not_exists, not_and] at h
  exact ⟨disjB_iff.2 fun n hn => (h n hn).1, fun t ht => disjB_iff.2 fun n hn => (h n hn).2.1 t ht, fun q hq => disjB_iff.2 fun n hn => (h n hn).2.2.1 q hq, fun q hq => disjB_iff.2 fun n hn => (h n hn).2.2.2 q hq⟩
theorem off_left {e f : Rec} (he : e.Fit ops s) (h : apartD d ops e.did f.did = true) : Off e (f.o.looksAt ops) (fun n => n ∈ f.r ∨ inBase d f.o n = true) s := by
  obtain ⟨h1, h2, h3, h4, h5⟩ := apartD_spec h
  obtain ⟨g1, g2, g3⟩ := Oper.apart_spec h3
  refine ⟨fun t ht => g1 t ht, fun n hn => ?_, fun n hn => ?_, fun t ht => ?_⟩
  · obtain ⟨k1, k2, k3⟩ := h1 n hn
    rintro (k | k)
    · exact k1 k
    · have k3' : inBase d f.o n = false := k3
      rw [k3'] at k; cases k
  · by_cases hu : e.act.u = []
    · rw [hu]; rfl
    · obtain ⟨q1, q2, q3, q4⟩ := h4 hu
      have hnr : n ∈ f.r := by
        rcases hn with k | k
        · exact k
        · rw [show inBase d f.o n = false from inBase_has q2] at k; cases k
      refine dropBk_clean (fun hu => ?_) (by rw [← he.H]; exact q3 n hnr)
      exact (h1 n (he.u n hu)).1 hnr
  · by_cases hu : e.act.u = []
    · rw [hu]; rfl
    · obtain ⟨q1, q2, q3, q4⟩ := h4 hu
      rw [← he.T]
      exact dropV_clean (q4 t ht)
theorem off_right {e f : Rec} (he : e.Fit ops s) (hf : f.Fit ops s') (h : apartD d ops e.did f.did = true) : Off f (e.o.looksAt ops) (fun n => n ∈ e.r ∨ inBase d e.o n = true) s := by
  obtain ⟨h1, h2, h3, h4, h5⟩ := apartD_spec h
  obtain ⟨g1, g2, g3⟩ := Oper.apart_spec h3
  refine ⟨fun t ht => g3 t ht, fun n hn => ?_, fun n hn => ?_, fun t ht => ?_⟩
  · obtain ⟨k1, k2⟩ := h2 n hn
    rintro (k | k)
    · exact k1 k
    · have k2' : inBase d e.o n = false := k2
      rw [k2'] at k; cases k
  · by_cases hu : f.act.u = []
    · rw [hu]; rfl
    · obtain ⟨q1, q2⟩ := h5 hu
      have hnr : n ∈ e.r := by
        rcases hn with k | k
        · exact k
        · rw [show inBase d e.o n = false from inBase_has q2] at k; cases k
      refine dropBk_clean (fun hu => ?_) ((he.rows q1).2.2.1 n hnr)
      exact (h2 n (hf.u n hu)).1 hnr
  · by_cases hu : f.act.u = []
    · rw [hu]; rfl
    · obtain ⟨q1, q2⟩ := h5 hu
      exact dropV_clean ((he.rows q1).2.1 t ht)
theorem com_of {e f : Rec} (he : e.Fit ops s) (hf : f.Fit ops s') (h : apartD d ops e.did f.did = true) : Com e f := by
  obtain ⟨h1, h2, h3, h4, h5⟩ := apartD_spec h
  obtain ⟨g1, g2, g3⟩ := Oper.apart_spec h3
  have nil : ∀ h, disjB [] h = true := fun h => rfl
  refine ⟨fun t ht => g2 t ht, fun n hn => (h1 n hn).2.1, fun n hn => ?_, fun n hn => ?_, ?_, ?_⟩
  · by_cases hu : f.act.u = []
    · rw [hu]; rfl
    · refine dropBk_clean (fun hu => ?_) ((he.rows (h5 hu).1).2.2.2 n hn)
      exact (h1 n hn).2.1 (hf.u n hu)
  · by_cases hu : e.act.u = []
    · rw [hu]; rfl
    · refine dropBk_clean (fun hu => ?_) ((hf.rows (h4 hu).1).2.2.2 n hn)
      exact (h1 n (he.u n hu)).2.1 hn
  · by_cases hu : e.act.u = []
    · rw [hu]; rfl
    · exact (hf.rows (h4 hu).1).1
  · by_cases hu : f.act.u = []
    · rw [hu]; rfl
    · exact (he.rows (h5 hu).1).1
end
end Go.Proofs.Dk

/- Regions in any order. -/
namespace Go.Proofs.Dk
open Go Go.RowKit
set_option linter.unusedVariables false
set_option linter.unusedSimpArgs false
def SpecOk (P : Program) (f : FuncId) (S : FS) : Prop := ∀ {α : Type} {I : In} {w : World} {H : Heap} {A : List DV} {args : List Value} {ρ : Nam} {k : DV → Heap → Option (List Nat) → Option α} {r : α} {x : S.tin.Ty} {m : Met}, HR I w H → LR I w A args → S.tin.pr ⟨[], []⟩ A H = some (x, m) → (∀ i n, (i, n) ∈ m.σ → ρ.o i = n) →
  ((S.fn x).bind fun y => if S.tout.free ρ ((Heap.drops m.u H).away m) = true then k (tupD (S.tout.T ρ (S.out y))) (S.tout.H ρ (S.out y) ((Heap.drops m.u H).away m)) (some m.u) else none) = some r →
  Calls P f args.toArray w (retP fun z w' => ∃ I' v H' u, k v H' u = some r ∧ Ext I w I' w' ∧ HR I' w' H' ∧ VR I' w' v z ∧ Kept u I I')
theorem mkR_out {ρ : Nam} : ∀ {ks : List IK} {c : Nat} {x : Tup ks} {H : Heap} {n : Nat}, n ∉ rnames ρ c ks → mkR ρ c ks x H n = H n
  | [], c, x, H, n, h => rfl
  | .any :: r, c, x, H, n, h => mkR_out (ks := r) h
  | .val s :: r, c, x, H, n, h => mkR_out (ks := r) h
  | .agf s F :: r, c, x, H, n, h => mkR_out (ks := r) h
  | .obj i :: r, c, x, H, n, h => mkR_out (ks := r) h
  | .clo F is :: r, c, x, H, n, h => mkR_out (ks := r) h
  | .tab ks vs :: r, c, x, H, n, h => mkR_out (ks := r) h
  | .row E s :: r, c, x, H, n, h => by
    simp only [rnames, List.mem_cons, not_or] at h
    show mkR ρ (c + 1) r x.2 (H.set (ρ.r c) (some (.row E s x.1))) n = H n
    rw [mkR_out (ks := r) h.2]
    simp only [Heap.set, h.1, if_false]
theorem mkR_in {ρ : Nam} : ∀ {ks : List IK} {c : Nat} {x : Tup ks} {H H' : Heap} {n : Nat}, n ∈ rnames ρ c ks ∨ H n = H' n → mkR ρ c ks x H n = mkR ρ c ks x H' n
  | [], c, x, H, H', n, h => h.elim (fun h => by cases h) id
  | .any :: r, c, x, H, H', n, h => mkR_in (ks := r) h
  | .val s :: r, c, x, H, H', n, h => mkR_in (ks := r) h
  | .agf s F :: r, c, x, H, H', n, h => mkR_in (ks := r) h
  | .obj i :: r, c, x, H, H', n, h => mkR_in (ks := r) h
  | .clo F is :: r, c, x, H, H', n, h => mkR_in (ks := r) h
  | .tab ks vs :: r, c, x, H, H', n, h => mkR_in (ks := r) h
  | .row E s :: r, c, x, H, H', n, h => by
    refine mkR_in (ks := r) ?_
    simp only [rnames, List.mem_cons] at h
    simp only [Heap.set]
    rcases h with (h | h) | h
    · right; simp [h]
    · exact .inl h
    · right
      split
      · rfl
      · exact h
theorem mkO_out {ρ : Nam} : ∀ {os : List (List IK)} {i : Nat} {x : TupO os} {H : Heap} {n : Nat}, n ∉ onames ρ i os → mkO ρ i os x H n = H n
  | [], i, x, H, n, h => rfl
  | k :: r, i, x, H, n, h => by
    simp only [onames, List.mem_cons, List.mem_append, not_or] at h
    show mkO ρ (i + 1) r x.2 (mkR ρ (1000 * (i + 1)) k x.1 (H.set (ρ.o i) (some (.obj (mkC ρ (1000 * (i + 1)) k x.1))))) n = H n
    rw [mkO_out (os := r) h.2.2, mkR_out h.2.1]
    simp only [Heap.set, h.1, if_false]
theorem mkO_in {ρ : Nam} : ∀ {os : List (List IK)} {i : Nat} {x : TupO os} {H H' : Heap} {n : Nat}, n ∈ onames ρ i os ∨ H n = H' n → mkO ρ i os x H n = mkO ρ i os x H' n
  | [], i, x, H, H', n, h => h.elim (fun h => by cases h) id
  | k :: r, i, x, H, H', n, h => by
    refine mkO_in (os := r) ?_
    simp only [onames, List.mem_cons, List.mem_append] at h
    have hset : n = ρ.o i ∨ H n = H' n → (H.set (ρ.o i) (some (.obj (mkC ρ (1000 * (i + 1)) k x.1)))) n = (H'.set (ρ.o i) (some (.obj (mkC ρ (1000 * (i + 1)) k x.1)))) n := fun h => by
      simp only [Heap.set]
      rcases h with h | h
      · simp [h]
      · split
        · rfl
        · exact h
    rcases h with (h | h | h) | h
    · exact .inr (mkR_in (.inr (hset (.inl h))))
    · exact .inr (mkR_in (.inl h))
    · exact .inl h
    · exact .inr (mkR_in (.inr (hset (.inr h))))
theorem Tmpl.H_out {t : Tmpl} {ρ : Nam} {x : t.Ty} {H : Heap} {n : Nat} (h : n ∉ t.names ρ) : t.H ρ x H n = H n := by
  simp only [Tmpl.names, List.mem_append, not_or] at h
  unfold Tmpl.H
  rw [mkR_out h.1, mkO_out h.2]
theorem Tmpl.H_in {t : Tmpl} {ρ : Nam} {x : t.Ty} {H H' : Heap} {n : Nat} (h : n ∈ t.names ρ) : t.H ρ x H n = t.H ρ x H' n := by
  simp only [Tmpl.names, List.mem_append] at h
  unfold Tmpl.H
  rcases h with h | h
  · exact mkR_in (.inl h)
  · exact mkR_in (.inr (mkO_in (.inl h)))
theorem H_act2 {t : Tmpl} {ρ : Nam} {z : t.Ty} {m : Met} {H : Heap} : t.H ρ z ((Heap.drops m.u H).away m) = H.act2 ⟨m.u, m.σ.map (·.2) ++ m.u ++ t.names ρ, t.H ρ z fun _ => none⟩ := by
  funext n
  show _ = if (m.σ.map (·.2) ++ m.u ++ t.names ρ).contains n = true then t.H ρ z (fun _ => none) n else Heap.drops m.u H n
  by_cases hn : n ∈ t.names ρ
  · have c : (m.σ.map (·.2) ++ m.u ++ t.names ρ).contains n = true := by simp [hn]
    rw [if_pos c]
    exact Tmpl.H_in hn
  · have hB : t.H ρ z (fun _ => none) n = none := Tmpl.H_out hn
    rw [Tmpl.H_out hn, hB]
    unfold Heap.away
    by_cases hs : n ∈ m.σ.map (·.2)
    · have c : (m.σ.map (·.2) ++ m.u ++ t.names ρ).contains n = true := by
        simp only [List.contains_eq_mem, List.mem_append, hs, true_or, decide_true]
      have c2 : (m.σ.any fun e => e.2 == n) = true := by
        obtain ⟨e, e1, e2⟩ := List.mem_map.1 hs
        exact List.any_eq_true.2 ⟨e, e1, by simpa using e2⟩
      rw [if_pos c, if_pos c2]
    · have c2 : ¬ (m.σ.any fun e => e.2 == n) = true := fun h => by
        obtain ⟨e, e1, e2⟩ := List.any_eq_true.1 h
        exact hs (List.mem_map.2 ⟨e, e1, by simpa using e2⟩)
      rw [if_neg c2]
      by_cases hu : n ∈ m.u
      · have c : (m.σ.map (·.2) ++ m.u ++ t.names ρ).contains n = true := by
          simp only [List.contains_eq_mem, List.mem_append, hu, or_true, true_or, decide_true]
        rw [if_pos c, drops_at]
        have : ∀ (u : List Nat) (b : Option Blk), n ∈ u → dropBk u n b = none := by
          intro u
          induction u with
          | nil => intro b h; cases h
          | cons k u ih =>
            intro b h
            rw [dropBk_cons]
            by_cases e : n = k
            · rw [if_pos e]; exact dropBk_none u n
            · rw [if_neg e]
              rcases List.mem_cons.1 h with h | h
              · exact absurd h e
              · exact ih _ h
        exact this m.u _ hu
      · have c : ¬ (m.σ.map (·.2) ++ m.u ++ t.names ρ).contains n = true := by
          simp only [List.contains_eq_mem, List.mem_append, hs, hu, hn, or_self, decide_false]
          decide
        rw [if_neg c]
def PureOk (P : Program) (f : FuncId) (S : FS) : Prop := ∀ {I : In} {w : World} {H : Heap} {A : List DV} {args : List Value} {X : S.tin.Ty} {m : Met} {Y : S.R}, HR I w H → LR I w A args → S.tin.pr ⟨[], []⟩ A (fun _ => none) = some (X, m) → S.fn X = some Y →
  Calls P f args.toArray w (retP fun z w' => ∃ I', Ext I w I' w' ∧ Rows I I' ∧ HR I' w' H ∧ VR I' w' (tupD (S.tout.T nam0 (S.out Y))) z)
def TabOk (P : Program) (g : FuncId) (t : Nat × List (List Int) × List FuncId) : Prop := ∀ {I : In} {w : World} {H : Heap} {A : List DV} {args : List Value}, HR I w H → LR I w A args → A.length = t.1 → A.all isPtr = true →
  Calls P g args.toArray w (retP fun z w' => ∃ I', Ext I w I' w' ∧ Rows I I' ∧ HR I' w' H ∧ VR I' w' (.tab t.2.1 (t.2.2.map fun F => .fn (.func F) A [])) z)
theorem tabVal_some {cx : Cx} {g : FuncId} {A : List DV} {v : DV} (h : tabVal cx g A = some v) : entersB cx.P g = true ∧ ∃ t, cx.tabs g = some t ∧ A.length = t.1 ∧ A.all isPtr = true ∧ v = .tab t.2.1 (t.2.2.map fun F => .fn (.func F) A []) := by
  unfold tabVal at h
  split at h
  · rename_i he
    split at h
    · rename_i n ks Fs ht
      split at h
      · rename_i hn
        split at h
        · rename_i hp
          simp only [Option.some.injEq] at h
          exact ⟨he, _, ht, hn, hp, h.symm⟩
        · cases h
      · cases h
    · cases h
  · cases h
theorem nodupB_nd : ∀ {l : List Nat}, nodupB l = true → l.Nodup
  | [], h => List.nodup_nil
  | a :: r, h => by
    simp only [nodupB, Bool.and_eq_true, Bool.not_eq_true', List.contains_eq_mem, decide_eq_false_iff_not] at h
    exact List.nodup_cons.2 ⟨h.1, nodupB_nd h.2⟩
theorem get_of_mem {m : Met} {i n : Nat} (hk : (m.σ.map (·.1)).Nodup) (h : (i, n) ∈ m.σ) : m.get i = some n := by
  unfold Met.get
  generalize m.σ = l at hk h
  induction l with
  | nil => cases h
  | cons e r ih =>
    simp only [List.map_cons, List.nodup_cons] at hk
    simp only [List.find?_cons]
    rcases List.mem_cons.1 h with h1 | h1
    · subst h1; simp
    · have : (e.1 == i) = false := by
        rw [beq_eq_false_iff_ne]
        intro e1
        exact hk.1 (List.mem_map.2 ⟨(i, n), h1, e1.symm⟩)
      rw [this]
      exact ih hk.2 h1
section
variable {α : Type} {cx : Cx} {d : Nat} {ops : Array Oper} {o : Oper} {I : In} {w : World} {T T' : List DV} {H H' : Heap} {a : Act} {v : DV} {act : Act2}
theorem wantD_ok {b : Bool} (hT : TR I w T a) (h : wantD ops o T = some b) : Region.wanted o (yielded ops a.tmps) = b := by
  unfold wantD at h
  unfold Region.wanted
  split at h
  · rename_i hg
    rw [hg]
    simpa using h
  · rename_i j want hg
    rw [hg]
    split at h
    · rename_i g hj
      split at h
      · rename_i b' hb
        have := yields_bool hT hj hb
        simp only [this]
        simp only [Option.some.injEq] at h
        rw [← h]
        cases b' <;> cases want <;> rfl
      · rename_i hb
        have := yields_none hT hj hb
        simp only [this]
        simp only [Option.some.injEq] at h
        rw [← h]
        rfl
      · cases h
    · cases h
theorem stepE_ok (hp : ∀ g S, S ∈ cx.specs g → FS.pure S = true → PureOk cx.P g S) (ht : ∀ g t, cx.tabs g = some t → TabOk cx.P g t) (hT : TR I w T a) (hH : HR I w H) (h : StepE cx d ops o T H v act) {K : Act → World → Prop} {Q : Exit → Act → World → Prop}
    (hk : ∀ I' w' u, Ext I w I' w' → HR I' w' (H.act2 act) → TR I' w' (putT (dropsL act.u T) o.dst v) (a.put o.dst u) → K (a.put o.dst u) w') : if Region.wanted o (yielded ops a.tmps) then o.wp cx.P a w K Q ∨ (o.asks cx.P a w ∧ LetsOut Q) else K (a.put o.dst undef) w := by
  obtain ⟨b, h1, h2⟩ := h
  rw [wantD_ok hT h1]
  rcases h2 with ⟨rfl, h2⟩ | ⟨rfl, rfl, rfl⟩
  · rw [if_pos rfl]
    refine .inl ?_
    rcases h2 with ⟨ac, h2, rfl⟩ | ⟨c, f, g, x, y, S, X, m, Y, k1, k2, k3, k4, k5, k6, k7, k8, rfl, rfl⟩ | ⟨c, f, g, x, y, k1, k2, k3, k4, rfl⟩
    · obtain ⟨v', act', g1, g2⟩ := opE_ok hT hH h2
      simp only [Option.some.injEq, Prod.mk.injEq] at g1
      obtain ⟨rfl, rfl⟩ := g1
      have hu : (Act2.of act').u = [] := by cases act' <;> rfl
      rw [act2_of, hu] at hk
      exact (g2.goes hT hH).wp hk
    · obtain ⟨x', y', e1, e2⟩ := call_args (c := c) hT k3
      unfold Oper.wp
      rw [exec_call k1 k2 e1 (enters_of k4), Oper.upon_enter]
      refine Calls.mono (hp g S k5 k6 hH e2 k7 k8) ?_
      rintro e w' he
      cases e with
      | returned z =>
        obtain ⟨I', m1, m2, m3, m4⟩ := he
        have hs : Same I I' w w' := ⟨m1.keeps hH, m1.obj, m2.row⟩
        exact hk I' w' z m1 m3 ((hT.keep hs).put _ m4)
      | _ => exact he.elim
    · obtain ⟨x', y', e1, e2⟩ := call_args (c := c) hT k3
      obtain ⟨he, t, ht', hl, hpt, rfl⟩ := tabVal_some k4
      unfold Oper.wp
      rw [exec_call k1 k2 e1 (enters_of he), Oper.upon_enter]
      refine Calls.mono (ht g t ht' hH e2 hl hpt) ?_
      rintro e w' he
      cases e with
      | returned z =>
        obtain ⟨I', m1, m2, m3, m4⟩ := he
        have hs : Same I I' w w' := ⟨m1.keeps hH, m1.obj, m2.row⟩
        exact hk I' w' z m1 m3 ((hT.keep hs).put _ m4)
      | _ => exact he.elim
  · rw [if_neg (by simp)]
    exact hk I w undef (Ext.refl I w) hH (skipped hT o.dst)
theorem stepS_ok (hs : ∀ g S, S ∈ cx.specs g → SpecOk cx.P g S) (hT : TR I w T a) (hH : HR I w H) (h : StepS cx ops o T H v act) {K : Act → World → Prop} {Q : Exit → Act → World → Prop}
    (hk : ∀ I' w' u, Ext I w I' w' → HR I' w' (H.act2 act) → TR I' w' (putT (dropsL act.u T) o.dst v) (a.put o.dst u) → K (a.put o.dst u) w') : if Region.wanted o (yielded ops a.tmps) then o.wp cx.P a w K Q ∨ (o.asks cx.P a w ∧ LetsOut Q) else K (a.put o.dst undef) w := by
  obtain ⟨h1, c, f, g, x, y, S, X, m, Y, b, k1, k2, k3, k4, k5, k6, k7, k8, rfl, rfl⟩ := h
  rw [wantD_ok hT h1, if_pos rfl]
  refine .inl ?_
  obtain ⟨x', y', e1, e2⟩ := call_args (c := c) hT k3
  have hkey := nodupB_nd (pr_key k6)
  have hρ : ∀ i n, (i, n) ∈ m.σ → (nam1 b m).o i = n := fun i n hin => by
    have hg : m.get i = some n := get_of_mem hkey hin
    simp only [nam1, hg]
  unfold Oper.wp
  rw [exec_call k1 k2 e1 (enters_of k4), Oper.upon_enter]
  refine Calls.mono (hs g S k5 (k := fun v H u => some (v, H, u)) hH e2 k6 hρ (by rw [k7, Option.bind_some, if_pos k8])) ?_
  rintro e w' he
  cases e with
  | returned z =>
    obtain ⟨I', v', H', u, m1, m2, m3, m4, m5⟩ := he
    simp only [Option.some.injEq, Prod.mk.injEq] at m1
    obtain ⟨rfl, rfl, rfl⟩ := m1
    rw [H_act2] at m3
    exact hk I' w' z m2 m3 ((keepT_ok hT hH m2 m5).put _ m4)
  | _ => exact he.elim
theorem appendS_K {P : Program} {E : TypeId} {s : Sh} {x : DV} {ys : List s.T} {k : List DV → Heap → Option α} (h : appendS P d o E s x ys H (fun v a => some (v, a)) = some (v, act)) : appendK P d o E s x ys T H k = k (putT (dropsL act.u T) o.dst v) (H.act2 act) := by
  have one : ∀ n (b : Blk), ((H.sub n .none).set n (some b)) = H.act2 ⟨[n], [n], fun _ => some b⟩ := fun n b => by
    funext m
    simp only [Heap.set, Heap.act2]
    by_cases e : m = n
    · simp [e]
    · simp [e]
      rfl
  cases x
  case rw n =>
    simp only [appendS] at h
    simp only [appendK]
    split at h
    · split at h
      · rename_i hE
        split at h
        · split at h
          · rename_i hc
            simp only [Option.some.injEq, Prod.mk.injEq] at h
            obtain ⟨rfl, rfl⟩ := h
            simp only [hE, if_true, hc, one]
            rfl
          · cases h
        · cases h
      · cases h
    · cases h
  case sl n z l =>
    simp only [appendS] at h
    simp only [appendK]
    split at h
    · split at h
      · rename_i hz
        split at h
        · rename_i hE
          split at h
          · split at h
            · rename_i hc
              simp only [Option.some.injEq, Prod.mk.injEq] at h
              obtain ⟨rfl, rfl⟩ := h
              simp only [hz, hE, if_true, hc, one]
              rfl
            · cases h
          · cases h
        · cases h
      · cases h
    · cases h
  case sc v' =>
    cases v' with
    | slice ad n c =>
      cases ad with
      | none =>
        simp only [appendS] at h
        simp only [appendK]
        split at h
        · rename_i hc
          rw [if_pos hc]
          split at h
          · rename_i hb
            simp only [Option.some.injEq, Prod.mk.injEq] at h
            obtain ⟨rfl, rfl⟩ := h
            have hf : fresh H 63 (base d o.dst) = base d o.dst := by
              unfold fresh
              rw [hb]
            unfold allocK
            simp only [hf, hb]
            have : H.act (some (base d o.dst, .row E s ys)) = H.act2 ⟨[], [base d o.dst], fun _ => some (.row E s ys)⟩ := (act2_of H (some (base d o.dst, .row E s ys))).symm
            rw [this]
            rfl
          · cases h
        · cases h
      | some ad => simp only [appendS] at h; cases h
    | _ => simp only [appendS] at h; cases h
  all_goals (simp only [appendS] at h; cases h)
theorem stepA_ok (hT : TR I w T a) (hH : HR I w H) (h : StepA cx d ops o T H v act) {K : Act → World → Prop} {Q : Exit → Act → World → Prop}
    (hk : ∀ I' w' u, Ext I w I' w' → HR I' w' (H.act2 act) → TR I' w' (putT (dropsL act.u T) o.dst v) (a.put o.dst u) → K (a.put o.dst u) w') : if Region.wanted o (yielded ops a.tmps) then o.wp cx.P a w K Q ∨ (o.asks cx.P a w ∧ LetsOut Q) else K (a.put o.dst undef) w := by
  obtain ⟨h1, c, x, y, t, e, s, ys, k1, k2, k3, k4, k5, k6, k7, k8, k9⟩ := h
  rw [wantD_ok hT h1, if_pos rfl]
  refine .inl ?_
  have hK : opK cx.P d o T H (fun T' H' => some (T', H')) = some (putT (dropsL act.u T) o.dst v, H.act2 act) := by
    unfold opK
    simp only [k1, k2, k3, k4, if_true, k5, k6, k7, k8]
    exact appendS_K k9
  obtain ⟨T', H', g1, g2⟩ := opK_ok hT hH hK
  simp only [Option.some.injEq, Prod.mk.injEq] at g1
  obtain ⟨rfl, rfl⟩ := g1
  exact g2.wp fun I' w' u he hH' hT' => hk I' w' u he hH' hT'
end
theorem hasA_iff {anc : List Nat} {j i : Nat} : hasA anc j i = true ↔ (anc.getD j 0).testBit i = true := by
  unfold hasA
  rw [Nat.testBit_eq_decide_div_mod_eq]
  simp only [decide_eq_true_eq]
  rw [Nat.beq_eq]
theorem mask_bit {acc : List Nat} {x : Nat} : ∀ {l : List Edge} {m : Nat}, (maskA acc l m).testBit x = true ↔ m.testBit x = true ∨ ∃ e ∈ l, x = e.on ∨ hasA acc e.on x = true
  | [], m => by simp [maskA]
  | e :: r, m => by
    simp only [maskA, mask_bit (l := r), Nat.testBit_or, Bool.or_eq_true, Nat.testBit_two_pow, decide_eq_true_eq, List.mem_cons, exists_eq_or_imp, hasA_iff]
    constructor
    · rintro ((h | h | h) | h)
      · exact .inl h
      · exact .inr (.inl (.inl h.symm))
      · exact .inr (.inl (.inr h))
      · exact .inr (.inr h)
    · rintro (h | (h | h) | h)
      · exact .inl (.inl h)
      · exact .inl (.inr (.inl h.symm))
      · exact .inl (.inr (.inr h))
      · exact .inr h
theorem ancs_spec : ∀ {l : List Oper} {i : Nat} {acc anc : List Nat}, ancs i l acc = some anc → acc.length = i → (∃ t, anc = acc ++ t) ∧ ∀ n o, l[n]? = some o → (∀ e ∈ o.after.toList, Region.binds .any e = true → e.on < i + n) ∧ ∀ x, hasA anc (i + n) x = true ↔ ∃ e ∈ o.after.toList.filter (Region.binds .any), x = e.on ∨ hasA anc e.on x = true
  | [], i, acc, anc, h, hl => by
    simp only [ancs, Option.some.injEq] at h
    subst h
    exact ⟨⟨[], by simp⟩, fun n o h => by simp at h⟩
  | o :: r, i, acc, anc, h, hl => by
    simp only [ancs] at h
    split at h
    · rename_i hall
      obtain ⟨⟨t, ht⟩, h2⟩ := ancs_spec h (by simp [hl])
      refine ⟨⟨_, by rw [ht, List.append_assoc]⟩, fun n o' hn => ?_⟩
      cases n with
      | zero =>
        simp only [List.getElem?_cons_zero, Option.some.injEq] at hn
        subst hn
        have hlt : ∀ e ∈ o.after.toList, Region.binds .any e = true → e.on < i := by
          intro e he hb
          simp only [List.all_eq_true, List.mem_filter, decide_eq_true_eq] at hall
          exact hall e ⟨he, hb⟩
        refine ⟨fun e he hb => by have := hlt e he hb; omega, fun x => ?_⟩
        have hg : anc.getD (i + 0) 0 = maskA acc (o.after.toList.filter (Region.binds .any)) 0 := by
          rw [ht, List.getD_eq_getElem?_getD, List.append_assoc, List.getElem?_append_right (by omega)]
          simp [hl]
        rw [hasA_iff, hg, mask_bit]
        simp only [Nat.zero_testBit, Bool.false_eq_true, false_or]
        have same : ∀ e ∈ o.after.toList.filter (Region.binds .any), hasA acc e.on x = hasA anc e.on x := by
          intro e he
          rw [List.mem_filter] at he
          have := hlt e he.1 he.2
          unfold hasA
          simp only [ht, List.getD_eq_getElem?_getD, List.append_assoc]
          rw [List.getElem?_append_left (by omega)]
        constructor
        · rintro ⟨e, he, h⟩
          exact ⟨e, he, h.imp id fun h => by rw [← same e he]; exact h⟩
        · rintro ⟨e, he, h⟩
          exact ⟨e, he, h.imp id fun h => by rw [same e he]; exact h⟩
      | succ n =>
        have := h2 n o' (by simpa using hn)
        rw [show i + (n + 1) = i + 1 + n by omega]
        exact this
    · cases h
section
variable {ops : Array Oper} {anc : List Nat} {listed : Array Bool}
def Aft (ops : Array Oper) (listed : Array Bool) (j : Nat) : Prop := ∀ o, ops[j]? = some o → ∀ e ∈ o.after, Region.binds .any e = true → listed.getD e.on false = true
theorem anc_listed (ha : ancs 0 ops.toList [] = some anc) (hc : ∀ j, listed.getD j false = true → Aft ops listed j) : ∀ (n j : Nat), j ≤ n → j < ops.size → Aft ops listed j → ∀ x, hasA anc j x = true → listed.getD x false = true := by
  obtain ⟨_, hs⟩ := ancs_spec ha rfl
  intro n
  induction n with
  | zero =>
    intro j hj hlt hA x hx
    obtain ⟨h1, h2⟩ := hs j ops[j] (by simp [hlt])
    rw [show 0 + j = j by omega] at h1 h2
    rw [h2] at hx
    obtain ⟨e, he, hx⟩ := hx
    rw [List.mem_filter] at he
    have := h1 e he.1 he.2
    omega
  | succ n ih =>
    intro j hj hlt hA x hx
    obtain ⟨h1, h2⟩ := hs j ops[j] (by simp [hlt])
    rw [show 0 + j = j by omega] at h1 h2
    rw [h2] at hx
    obtain ⟨e, he, hx⟩ := hx
    rw [List.mem_filter] at he
    have hon := h1 e he.1 he.2
    have hl := hA ops[j] (by simp [hlt]) e (Array.mem_toList_iff.1 he.1) he.2
    rcases hx with rfl | hx
    · exact hl
    · exact ih e.on (by omega) (by omega) (hc e.on hl) x hx
end
theorem statOk_spec {ops : Array Oper} {anc : List Nat} (h : statOk ops anc = true) {i j : Nat} {x y : Oper} (hij : i < j) (hx : ops.toList[i]? = some x) (hy : ops.toList[j]? = some y) : hasA anc j i = true ∨ x.apart ops y = true := by
  rw [Array.getElem?_toList] at hx hy
  unfold statOk at h
  rw [List.all_eq_true] at h
  have h1 := h j (by rw [List.mem_range]; exact (Array.getElem?_eq_some_iff.1 hy).1)
  rw [List.all_eq_true] at h1
  have h2 := h1 i (by rw [List.mem_range]; exact hij)
  rw [hx, hy] at h2
  simpa using h2
theorem okD_spec {anc : List Nat} {d j : Nat} {q : Bool} {log : List (Nat × Did)} {x : Did} {ops : Array Oper} (h : okD ops anc d j q log x = true) {i : Nat} {e : Did} (he : (i, e) ∈ log) (hq : q = true → noW e = true) (hs : hasA anc j i = true ∨ e.o.apart ops x.o = true) : hasA anc j i = true ∨ apartD d ops e x = true := by
  rcases hs with hs | hs
  · exact .inl hs
  · have two : noW e = true → noW x = true → apartD d ops e x = true := fun h1 h2 => by
      unfold noW at h1 h2
      simp only [Bool.and_eq_true, List.isEmpty_iff] at h1 h2
      unfold apartD dynD softB
      rw [h1.1, h2.1, h1.2, h2.2, hs]
      rfl
    unfold okD at h
    simp only [Bool.or_eq_true, Bool.and_eq_true] at h
    rcases h with ⟨h1, h2⟩ | h
    · exact .inr (two (hq h1) h2)
    · rw [List.all_eq_true] at h
      have := h _ he
      simp only [Bool.or_eq_true, Bool.and_eq_true] at this
      rcases this with ⟨h1, h2⟩ | h1 | h1
      · exact .inr (two h1 h2)
      · exact .inl h1
      · refine .inr ?_
        unfold apartD
        rw [hs, Bool.and_true]
        exact h1
end Go.Proofs.Dk

/- Regions in any order: what has been carried out, and what is left. -/
namespace Go.Proofs.Dk
open Go Go.RowKit
set_option linter.unusedVariables false
set_option linter.unusedSimpArgs false
def StepO (cx : Cx) (d : Nat) (ops : Array Oper) (e : Rec) (s : St) : Prop :=
  (StepE cx d ops e.o s.1 s.2 e.v e.act ∧ e.r = readsD s.1 e.o) ∨ (StepS cx ops e.o s.1 s.2 e.v e.act ∧ e.r = e.act.W) ∨ (StepA cx d ops e.o s.1 s.2 e.v e.act ∧ e.r = readsD s.1 e.o ++ e.act.W)
structure Seg (cx : Cx) (d : Nat) (ops : Array Oper) (anc : List Nat) (m : Nat) (s0 : St) (rs : List Rec) : Prop where
  op : ∀ i e, rs[i]? = some e → ops.toList[m + i]? = some e.o
  st : ∀ i e, rs[i]? = some e → StepO cx d ops e (accA (rs.take i) s0)
  fit : ∀ i (e : Rec), rs[i]? = some e → e.Fit ops (accA (rs.take i) s0)
  ap : ∀ i e i' e', i' < i → rs[i']? = some e' → rs[i]? = some e → hasA anc (m + i) (m + i') = true ∨ apartD d ops e'.did e.did = true
theorem Seg.nil {cx : Cx} {d : Nat} {ops : Array Oper} {anc : List Nat} {m : Nat} {s0 : St} : Seg cx d ops anc m s0 [] := ⟨fun i e h => by simp at h, fun i e h => by simp at h, fun i e h => by simp at h, fun i e i' e' _ h => by simp at h⟩
def recO (ops : Array Oper) (s : St) (o : Oper) (v : DV) (r : List Nat) (a : Act2) : Rec := ⟨o, v, a, r, rowsD ops s.1 s.2 o v r a, s.1, s.2⟩
theorem recO_did (ops : Array Oper) (s : St) (o : Oper) (v : DV) (r : List Nat) (a : Act2) : (recO ops s o v r a).did = didD ops s.1 s.2 o v r a := rfl
theorem recO_fit {ops : Array Oper} {s : St} {o : Oper} {v : DV} {r : List Nat} {a : Act2} (h : ∀ n ∈ a.u, n ∈ a.W) : (recO ops s o v r a).Fit ops s := ⟨rfl, rfl, rfl, h⟩
theorem stepS_u {cx : Cx} {ops : Array Oper} {T : List DV} {H : Heap} {o : Oper} {v : DV} {a : Act2} (h : StepS cx ops o T H v a) : ∀ n ∈ a.u, n ∈ a.W := by
  obtain ⟨_, c, f, g, x, y, S, X, m, Y, b, k1, k2, k3, k4, k5, k6, k7, k8, k9, k10⟩ := h
  intro n hn
  rw [k10] at hn ⊢
  simp only [List.mem_append]
  exact .inl (.inr hn)
theorem appendS_u {P : Program} {d : Nat} {o : Oper} {E : TypeId} {s : Sh} {x : DV} {ys : List s.T} {H : Heap} {v : DV} {a : Act2} (h : appendS P d o E s x ys H (fun v a => some (v, a)) = some (v, a)) : ∀ n ∈ a.u, n ∈ a.W := by
  cases x
  case rw n =>
    simp only [appendS] at h
    split at h
    · split at h
      · split at h
        · split at h
          · simp only [Option.some.injEq, Prod.mk.injEq] at h
            obtain ⟨_, rfl⟩ := h
            exact fun n hn => hn
          · cases h
        · cases h
      · cases h
    · cases h
  case sl n z l =>
    simp only [appendS] at h
    split at h
    · split at h
      · split at h
        · split at h
          · split at h
            · simp only [Option.some.injEq, Prod.mk.injEq] at h
              obtain ⟨_, rfl⟩ := h
              exact fun n hn => hn
            · cases h
          · cases h
        · cases h
      · cases h
    · cases h
  case sc v' =>
    cases v' with
    | slice ad n c =>
      cases ad with
      | none =>
        simp only [appendS] at h
        split at h
        · split at h
          · simp only [Option.some.injEq, Prod.mk.injEq] at h
            obtain ⟨_, rfl⟩ := h
            exact fun n hn => by cases hn
          · cases h
        · cases h
      | some ad => simp only [appendS] at h; cases h
    | _ => simp only [appendS] at h; cases h
  all_goals (simp only [appendS] at h; cases h)
theorem of_u (a : Actn) : (Act2.of a).u = [] := by cases a <;> rfl
section
variable {α : Type} {cx : Cx} {call : CallK α} {d : Nat} {ops : Array Oper} {anc : List Nat} {k : K α} {r : α}
def Tail (cx : Cx) (call : CallK α) (d : Nat) (ops : Array Oper) (anc : List Nat) (k : K α) (r : α) (q : Nat) (T : List DV) (H : Heap) : Prop :=
  (ops.toList.drop q = [] ∧ k T H = some r) ∨ ∃ o rest, ops.toList.drop q = o :: rest ∧ barOk anc ops.size q = true ∧ wantD ops o T = some true ∧
    ((∃ c f g x y, o.op = .call c ∧ c.callee = .value f ∧ evO T f = .fn (.func g) x y ∧ (match (if rawArgs g = true then (x ++ c.args.toList.map (evO T) ++ y, T, H) else solidA (x ++ c.args.toList.map (evO T) ++ y) T H) with
      | (A, T, H) => call g A H fun v H u => evOpsD cx call d ops anc rest (q + 1) true [] (putT (keepT T u) o.dst v) H k) = some r) ∨
    (opK cx.P d o T H fun T H => evOpsD cx call d ops anc rest (q + 1) true [] T H k) = some r)
theorem specV_some : ∀ {l : List FS} {A : List DV} {k : DV → Option α} {q : Option α}, specV l A k = some q → ∃ S X m, S ∈ l ∧ FS.pure S = true ∧ S.tin.pr ⟨[], []⟩ A (fun _ => none) = some (X, m) ∧ q = (S.fn X).bind fun y => k (tupD (S.tout.T nam0 (S.out y)))
  | [], A, k, q, h => by cases h
  | S :: l, A, k, q, h => by
    simp only [specV] at h
    split at h
    · rename_i hp
      split at h
      · rename_i X m hX
        simp only [Option.some.injEq] at h
        exact ⟨S, X, m, by simp, hp, hX, h.symm⟩
      · obtain ⟨S', X, m, h1, h2⟩ := specV_some h
        exact ⟨S', X, m, List.mem_cons_of_mem _ h1, h2⟩
    · obtain ⟨S', X, m, h1, h2⟩ := specV_some h
      exact ⟨S', X, m, List.mem_cons_of_mem _ h1, h2⟩
theorem softK_some : ∀ {l : List FS} {A : List DV} {H : Heap} {b : Nat} {k : DV → Act2 → Option α} {q : Option α}, softK l A H b k = some q → ∃ S X m, S ∈ l ∧ S.tin.pr ⟨[], []⟩ A H = some (X, m) ∧ q = (S.fn X).bind fun y =>
      if S.tout.free (nam1 b m) ((Heap.drops m.u H).away m) = true then k (tupD (S.tout.T (nam1 b m) (S.out y))) ⟨m.u, m.σ.map (·.2) ++ m.u ++ S.tout.names (nam1 b m), S.tout.H (nam1 b m) (S.out y) fun _ => none⟩ else none
  | [], A, H, b, k, q, h => by cases h
  | S :: l, A, H, b, k, q, h => by
    simp only [softK] at h
    split at h
    · rename_i X m hX
      simp only [Option.some.injEq] at h
      exact ⟨S, X, m, by simp, hX, h.symm⟩
    · obtain ⟨S', X, m, h1, h2⟩ := softK_some h
      exact ⟨S', X, m, List.mem_cons_of_mem _ h1, h2⟩
theorem softA_some {P : Program} {o : Oper} {c : Call} {T : List DV} {H : Heap} {k : DV → Act2 → Option α} {q : α} (h : softA P d o c T H k = some q) : ∃ x y t e s ys v a, c.args.toList = [x, y] ∧ c.argTypes.toList = [t, t] ∧ P.underlying t = some (.slice e) ∧ shapeOf P 8 e = some s ∧ zeroOk P e s = true ∧ elemsD H s (evO T y) = some ys ∧ appendS P d o e s (evO T x) ys H (fun v a => some (v, a)) = some (v, a) ∧ k v a = some q := by
  unfold softA at h
  split at h
  · rename_i x y t t' h1 h2
    split at h
    · rename_i ht
      subst ht
      split at h
      · rename_i e he
        split at h
        · rename_i s hs
          split at h
          · rename_i hz
            split at h
            · rename_i ys hy
              rw [appendS_nat] at h
              obtain ⟨⟨v, a⟩, ha, hk⟩ := Option.bind_eq_some_iff.1 h
              exact ⟨x, y, t, e, s, ys, v, a, h1, h2, he, hs, hz, hy, ha, hk⟩
            · cases h
          · cases h
        · cases h
      · cases h
    · cases h
  · cases h
theorem Seg.snoc {m : Nat} {s0 : St} {rs : List Rec} (hst : statOk ops anc = true) (h : Seg cx d ops anc m s0 rs) {e0 : Rec} (ho : ops.toList[m + rs.length]? = some e0.o) (hs : StepO cx d ops e0 (accA rs s0)) (hfit : e0.Fit ops (accA rs s0)) {q : Bool} {log : List (Nat × Did)}
    (hlog : ∀ i e, rs[i]? = some e → (m + i, e.did) ∈ log) (hq : q = true → ∀ e ∈ rs, noW e.did = true)
    (hc : okD ops anc d (m + rs.length) q log e0.did = true) : Seg cx d ops anc m s0 (rs ++ [e0]) := by
  have old : ∀ {i : Nat} {e : Rec}, (rs ++ [e0])[i]? = some e → (i < rs.length ∧ rs[i]? = some e ∧ (rs ++ [e0]).take i = rs.take i) ∨ (i = rs.length ∧ e = e0 ∧ (rs ++ [e0]).take i = rs) := by
    intro i e hi
    rcases Nat.lt_or_ge i rs.length with hl | hl
    · rw [List.getElem?_append_left hl] at hi
      exact .inl ⟨hl, hi, by rw [List.take_append_of_le_length (by omega)]⟩
    · rw [List.getElem?_append_right hl] at hi
      have hlt := (List.getElem?_eq_some_iff.1 hi).1
      simp only [List.length_cons, List.length_nil] at hlt
      have : i = rs.length := by omega
      subst this
      simp only [Nat.sub_self, List.getElem?_cons_zero, Option.some.injEq] at hi
      exact .inr ⟨rfl, hi.symm, by simp⟩
  refine ⟨fun i e hi => ?_, fun i e hi => ?_, fun i e hi => ?_, fun i e i' e' hlt hi' hi => ?_⟩
  · rcases old hi with ⟨_, h1, _⟩ | ⟨rfl, rfl, _⟩
    · exact h.op i e h1
    · exact ho
  · rcases old hi with ⟨_, h1, h2⟩ | ⟨rfl, rfl, h2⟩
    · rw [h2]; exact h.st i e h1
    · rw [h2]; exact hs
  · rcases old hi with ⟨_, h1, h2⟩ | ⟨rfl, rfl, h2⟩
    · rw [h2]; exact h.fit i e h1
    · rw [h2]; exact hfit
  · rcases old hi with ⟨hl, h1, h2⟩ | ⟨rfl, rfl, h2⟩
    · rcases old hi' with ⟨_, h1', _⟩ | ⟨rfl, _, _⟩
      · exact h.ap i e i' e' hlt h1' h1
      · omega
    · rcases old hi' with ⟨_, h1', _⟩ | ⟨rfl, _, _⟩
      · refine okD_spec hc (hlog i' e' h1') (fun h0 => hq h0 e' (List.mem_of_getElem? h1')) (statOk_spec hst (by omega) (h.op i' e' h1') ho)
      · omega
theorem drop_cons {l : List Oper} {q : Nat} {o : Oper} {rest : List Oper} (h : l.drop q = o :: rest) : l[q]? = some o ∧ l.drop (q + 1) = rest := by
  constructor
  · rw [← List.head?_drop, h]; rfl
  · rw [← List.tail_drop, h]; rfl
theorem collect (hst : statOk ops anc = true) {m : Nat} {s0 : St} : ∀ {l : List Oper} {rs : List Rec} {j : Nat} {q : Bool} {log : List (Nat × Did)}, ops.toList.drop (m + rs.length) = l → j = m + rs.length → (∀ i e, rs[i]? = some e → (m + i, e.did) ∈ log) → (q = true → ∀ e ∈ rs, noW e.did = true) → Seg cx d ops anc m s0 rs → evOpsD cx call d ops anc l j q log (accA rs s0).1 (accA rs s0).2 k = some r →
    ∃ rs', Seg cx d ops anc m s0 rs' ∧ Tail cx call d ops anc k r (m + rs'.length) (accA rs' s0).1 (accA rs' s0).2
  | [], rs, j, q, log, hl, hj, hlog, hq, hs, h => ⟨rs, hs, .inl ⟨hl, h⟩⟩
  | o :: l, rs, j, q, log, hl, hj, hlog, hq, hs, h => by
    subst hj
    obtain ⟨ho, hl2⟩ := drop_cons hl
    have more : ∀ {e0 : Rec} {q' : Bool}, Seg cx d ops anc m s0 (rs ++ [e0]) → (q' = true → q = true ∧ noW e0.did = true) → evOpsD cx call d ops anc l (m + rs.length + 1) q' ((m + rs.length, e0.did) :: log) (accA (rs ++ [e0]) s0).1 (accA (rs ++ [e0]) s0).2 k = some r → ∃ rs', Seg cx d ops anc m s0 rs' ∧ Tail cx call d ops anc k r (m + rs'.length) (accA rs' s0).1 (accA rs' s0).2 := by
      intro e0 q' hseg hq' h
      refine collect hst (l := l) (j := m + rs.length + 1) (rs := rs ++ [e0]) (by simp only [List.length_append, List.length_cons, List.length_nil]; rw [← hl2]; congr 1) (by simp only [List.length_append, List.length_cons, List.length_nil]; omega) (log := (m + rs.length, e0.did) :: log) (q := q') (fun i e hi => ?_) (fun h0 e he => ?_) hseg h
      · rcases Nat.lt_or_ge i rs.length with hlt | hge
        · rw [List.getElem?_append_left hlt] at hi
          exact List.mem_cons_of_mem _ (hlog i e hi)
        · rw [List.getElem?_append_right hge] at hi
          have hlt := (List.getElem?_eq_some_iff.1 hi).1
          simp only [List.length_cons, List.length_nil] at hlt
          have : i = rs.length := by omega
          subst this
          simp only [Nat.sub_self, List.getElem?_cons_zero, Option.some.injEq] at hi
          subst hi
          exact List.mem_cons_self ..
      · obtain ⟨h1, h2⟩ := hq' h0
        rcases List.mem_append.1 he with he | he
        · exact hq h1 e he
        · simp only [List.mem_singleton] at he
          subst he
          exact h2
    have next : ∀ {v : DV} {act : Actn}, StepE cx d ops o (accA rs s0).1 (accA rs s0).2 v (Act2.of act) → (if okD ops anc d (m + rs.length) q log (didD ops (accA rs s0).1 (accA rs s0).2 o v (readsD (accA rs s0).1 o) (Act2.of act)) = true then
        evOpsD cx call d ops anc l (m + rs.length + 1) (q && act.isNone) ((m + rs.length, didD ops (accA rs s0).1 (accA rs s0).2 o v (readsD (accA rs s0).1 o) (Act2.of act)) :: log) (putT (accA rs s0).1 o.dst v) ((accA rs s0).2.act act) k else none) = some r → ∃ rs', Seg cx d ops anc m s0 rs' ∧ Tail cx call d ops anc k r (m + rs'.length) (accA rs' s0).1 (accA rs' s0).2 := by
      intro v act hst1 h
      split at h
      · rename_i hc
        rw [← recO_did] at hc h
        refine more (e0 := recO ops (accA rs s0) o v (readsD (accA rs s0).1 o) (Act2.of act)) (q' := q && act.isNone) (hs.snoc hst ho (.inl ⟨hst1, rfl⟩) (recO_fit (by rw [of_u]; exact fun n hn => by cases hn)) hlog hq hc) (fun h0 => ?_) ?_
        · simp only [Bool.and_eq_true] at h0
          refine ⟨h0.1, ?_⟩
          cases act with
          | none => rfl
          | some p => cases h0.2
        · rw [accA_append]
          show evOpsD cx call d ops anc l (m + rs.length + 1) (q && act.isNone) _ (putT (dropsL (Act2.of act).u (accA rs s0).1) o.dst v) ((accA rs s0).2.act2 (Act2.of act)) k = some r
          rw [act2_of, of_u]
          exact h
      · cases h
    have soft : ∀ {v : DV} {rd : List Nat} {act : Act2}, StepO cx d ops (recO ops (accA rs s0) o v rd act) (accA rs s0) → (∀ n ∈ act.u, n ∈ act.W) → (if okD ops anc d (m + rs.length) q log (didD ops (accA rs s0).1 (accA rs s0).2 o v rd act) = true then
        evOpsD cx call d ops anc l (m + rs.length + 1) false ((m + rs.length, didD ops (accA rs s0).1 (accA rs s0).2 o v rd act) :: log) (putT (dropsL act.u (accA rs s0).1) o.dst v) ((accA rs s0).2.act2 act) k else none) = some r → ∃ rs', Seg cx d ops anc m s0 rs' ∧ Tail cx call d ops anc k r (m + rs'.length) (accA rs' s0).1 (accA rs' s0).2 := by
      intro v rd act hst1 hu h
      split at h
      · rename_i hc
        rw [← recO_did] at hc h
        refine more (e0 := recO ops (accA rs s0) o v rd act) (q' := false) (hs.snoc hst ho hst1 (recO_fit hu) hlog hq hc) (fun h => by cases h) ?_
        rw [accA_append]
        exact h
      · cases h
    have hst0 : accA rs s0 = ((accA rs s0).1, (accA rs s0).2) := rfl
    have hsoft : ∀ {v : DV} {act : Act2}, StepS cx ops o (accA rs s0).1 (accA rs s0).2 v act → StepO cx d ops (recO ops (accA rs s0) o v act.W act) (accA rs s0) := fun h => .inr (.inl ⟨h, rfl⟩)
    have hsoftA : ∀ {v : DV} {act : Act2}, StepA cx d ops o (accA rs s0).1 (accA rs s0).2 v act → StepO cx d ops (recO ops (accA rs s0) o v (readsD (accA rs s0).1 o ++ act.W) act) (accA rs s0) := fun h => .inr (.inr ⟨h, rfl⟩)
    generalize hTT : (accA rs s0).1 = T at *
    generalize hHH : (accA rs s0).2 = H at *
    have hrun : wantD ops o T = some true → ∀ {R : Option α}, runD cx call d ops.size anc o (m + rs.length) T H (fun v act => if okD ops anc d (m + rs.length) q log (didD ops T H o v (readsD T o) (Act2.of act)) = true then
        evOpsD cx call d ops anc l (m + rs.length + 1) (q && act.isNone) ((m + rs.length, didD ops T H o v (readsD T o) (Act2.of act)) :: log) (putT T o.dst v) (H.act act) k else none) (fun rd v act => if okD ops anc d (m + rs.length) q log (didD ops T H o v rd act) = true then
        evOpsD cx call d ops anc l (m + rs.length + 1) false ((m + rs.length, didD ops T H o v rd act) :: log) (putT (dropsL act.u T) o.dst v) (H.act2 act) k else none) (fun T H => evOpsD cx call d ops anc l (m + rs.length + 1) true [] T H k) = some r → ∃ rs', Seg cx d ops anc m s0 rs' ∧ Tail cx call d ops anc k r (m + rs'.length) (accA rs' s0).1 (accA rs' s0).2 := by
      intro hw R h
      have plain : (opE cx.P d o T H fun v act => if okD ops anc d (m + rs.length) q log (didD ops T H o v (readsD T o) (Act2.of act)) = true then
        evOpsD cx call d ops anc l (m + rs.length + 1) (q && act.isNone) ((m + rs.length, didD ops T H o v (readsD T o) (Act2.of act)) :: log) (putT T o.dst v) (H.act act) k else none) = some r → ∃ rs', Seg cx d ops anc m s0 rs' ∧ Tail cx call d ops anc k r (m + rs'.length) (accA rs' s0).1 (accA rs' s0).2 := by
        intro h
        rw [opE_nat] at h
        obtain ⟨⟨v, act⟩, h1, h2⟩ := Option.bind_eq_some_iff.1 h
        exact next ⟨true, hw, .inl ⟨rfl, .inl ⟨act, h1, rfl⟩⟩⟩ h2
      unfold runD at h
      split at h
      · rename_i c hoc
        split at h
        · rename_i f hcf
          split at h
          · rename_i g x y hf
            split at h
            · rename_i v hv
              exact next (act := none) ⟨true, hw, .inl ⟨rfl, .inr (.inr ⟨c, f, g, x, y, hoc, hcf, hf, hv, rfl⟩)⟩⟩ h
            split at h
            · rename_i q hq
              split at hq
              · rename_i hent
                obtain ⟨S, X, mm, h1, h2, h3, rfl⟩ := specV_some hq
                obtain ⟨Y, h4, h5⟩ := Option.bind_eq_some_iff.1 h
                exact next (act := none) ⟨true, hw, .inl ⟨rfl, .inr (.inl ⟨c, f, g, x, y, S, X, mm, Y, hoc, hcf, hf, hent, h1, h2, h3, h4, rfl, rfl⟩)⟩⟩ h5
              · cases hq
            · split at h
              · rename_i hb
                exact ⟨rs, hs, .inr ⟨o, l, hl, hb, by rw [hTT]; exact hw, .inl ⟨c, f, g, x, y, hoc, hcf, by rw [hTT]; exact hf, by rw [hTT, hHH]; exact h⟩⟩⟩
              · split at h
                · rename_i q hq
                  split at hq
                  · rename_i hent
                    obtain ⟨S, X, mm, h1, h2, rfl⟩ := softK_some hq
                    obtain ⟨Y, h4, h5⟩ := Option.bind_eq_some_iff.1 h
                    split at h5
                    · rename_i hfree
                      have hS : StepS cx ops o T H _ _ := ⟨hw, c, f, g, x, y, S, X, mm, Y, _, hoc, hcf, hf, hent, h1, h2, h4, hfree, rfl, rfl⟩
                      exact soft (hsoft hS) (stepS_u hS) h5
                    · cases h5
                  · cases hq
                · cases h
          · cases h
        · rename_i hcf
          split at h
          · rename_i hb
            exact ⟨rs, hs, .inr ⟨o, l, hl, hb, by rw [hTT]; exact hw, .inr (by rw [hTT, hHH]; exact h)⟩⟩
          · obtain ⟨x, y, t, e, s, ys, v, a, q1, q2, q3, q4, q5, q6, q7, q8⟩ := softA_some h
            exact soft (hsoftA ⟨hw, c, x, y, t, e, s, ys, hoc, hcf, q1, q2, q3, q4, q5, q6, q7⟩) (appendS_u q7) q8
        · exact plain h
      · rename_i q x y ho'
        split at h
        · rename_i hb
          simp only [Bool.and_eq_true] at hb
          exact ⟨rs, hs, .inr ⟨o, l, hl, hb.2, by rw [hTT]; exact hw, .inr (by rw [hTT, hHH]; exact h)⟩⟩
        · exact plain h
      · exact plain h
    unfold evOpsD at h
    simp only at h
    split at h
    · rename_i hg
      exact hrun (by simp [wantD, hg]) (R := some r) h
    · rename_i j want hg
      split at h
      · rename_i g hj
        split at h
        · rename_i b hb
          have hfix : T.set g (.sc (.bool b)) = T := TR.fix hb (by simp)
          have hw : wantD ops o T = some (b == want) := by unfold wantD; rw [hg]; simp only [hj, hb]
          cases b with
          | true =>
            rw [hfix] at h
            cases want with
            | true => exact hrun hw (R := some r) h
            | false => exact next (act := none) ⟨false, hw, .inr ⟨rfl, rfl, rfl⟩⟩ h
          | false =>
            rw [hfix] at h
            cases want with
            | true => exact next (act := none) ⟨false, hw, .inr ⟨rfl, rfl, rfl⟩⟩ h
            | false => exact hrun hw (R := some r) h
        · rename_i hb
          have hw : wantD ops o T = some false := by unfold wantD; rw [hg]; simp only [hj, hb]
          exact next (act := none) ⟨false, hw, .inr ⟨rfl, rfl, rfl⟩⟩ h
        · cases h
      · cases h
end
end Go.Proofs.Dk
