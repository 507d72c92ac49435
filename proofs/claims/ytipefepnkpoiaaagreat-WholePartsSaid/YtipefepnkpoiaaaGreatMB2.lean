/- A part of the proofs: Regions in any order: what has been carried out, and what is left. -/
import Derived.Test.YtipefepnkpoiaaaGreatMB1
import Derived.Scope
import Derived.OpenShut
import Derived.ProofKit
import Derived.Deep.Slices
import Derived.Below
import Derived.SizedLaws
import Derived.ScopeJumps
import Derived.Deep.Quiet
set_option linter.unusedVariables false
set_option linter.unusedSimpArgs false
noncomputable section
namespace Go.Proofs.Dk
open Go Go.RowKit
def rt (cx : Cx) (d : Nat) (ops : Array Oper) (e : Rec) (s : St) : Prop :=
 (yH cx d ops e.o s.1 s.2 e.v e.act ∧ e.r = fd s.1 e.o) ∨ (rn cx ops e.o s.1 s.2 e.v e.act ∧ e.r = e.act.W) ∨ (yI cx d ops e.o s.1 s.2 e.v e.act ∧ e.r = fd s.1 e.o ++ e.act.W) ∨ vI cx ops e.o s.1 s.2 e.v e.act e.r ∨ qc cx d ops e.o s.1 s.2 e.v e.act e.r
structure Seg (cx : Cx) (d : Nat) (ops : Array Oper) (anc : List Nat) (m : Nat) (s0 : St) (rs : List Rec) : Prop where
 op : ∀ i e, rs[i]? = some e → ops.toList[m + i]? = some e.o
 st : ∀ i e, rs[i]? = some e → rt cx d ops e (dr (rs.take i) s0)
 fit : ∀ i (e : Rec), rs[i]? = some e → e.Fit ops (dr (rs.take i) s0)
 ap : ∀ i e i' e', i' < i → rs[i']? = some e' → rs[i]? = some e → jo anc (m + i) (m + i') = true ∨ iM d ops e'.did e.did = true
theorem Seg.nil {cx : Cx} {d : Nat} {ops : Array Oper} {anc : List Nat} {m : Nat} {s0 : St} : Seg cx d ops anc m s0 [] := ⟨fun i e h => by simp at h, fun i e h => by simp at h, fun i e h => by simp at h, fun i e i' e' _ h => by simp at h⟩
def ru (ops : Array Oper) (s : St) (o : Oper) (v : DV) (r : List Nat) (a : Act2) : Rec := ⟨o, v, a, r, Cg ops s.1 s.2 o v r a, s.1, s.2⟩
theorem CU (ops : Array Oper) (s : St) (o : Oper) (v : DV) (r : List Nat) (a : Act2) : (ru ops s o v r a).did = iI ops s.1 s.2 o v r a := rfl
theorem CV {ops : Array Oper} {s : St} {o : Oper} {v : DV} {r : List Nat} {a : Act2} (h : ∀ n ∈ a.u, n ∈ a.W) : (ru ops s o v r a).Fit ops s := ⟨rfl, rfl, rfl, h⟩
theorem My {cx : Cx} {ops : Array Oper} {T : List DV} {H : Heap} {o : Oper} {v : DV} {a : Act2} (h : rn cx ops o T H v a) : ∀ n ∈ a.u, n ∈ a.W := by
 obtain ⟨_, c, f, g, x, y, S, X, m, Y, b, k1, k2, k3, k4, k5, k6, k7, k8, k9, k10⟩ := h
 intro n hn
 rw [k10] at hn ⊢
 simp only [aA]
 exact .inl (.inr hn)
theorem HV {P : Program} {d : Nat} {o : Oper} {E : TypeId} {s : Sh} {x : DV} {ys : List s.T} {H : Heap} {v : DV} {a : Act2} (h : d7 P d o E s x ys H (fun v a => some (v, a)) = some (v, a)) : ∀ n ∈ a.u, n ∈ a.W := by
 cases x
 case rw n =>
  simp only [d7] at h
  split at h
  ·split at h
   ·split at h
    ·split at h
     ·simp only [ab, ah] at h
      obtain ⟨_, rfl⟩ := h
      exact fun n hn => hn
     ·cases h
    ·cases h
   ·cases h
  ·cases h
 case sl n z l =>
  simp only [d7] at h
  split at h
  ·split at h
   ·split at h
    ·split at h
     ·split at h
      ·simp only [ab, ah] at h
       obtain ⟨_, rfl⟩ := h
       exact fun n hn => hn
      ·cases h
     ·cases h
    ·cases h
   ·cases h
  ·cases h
 case sc v' =>
  cases v' with
  | slice ad n c =>
   cases ad with
   | none =>
    simp only [d7] at h
    split at h
    ·split at h
     ·simp only [ab, ah] at h
      obtain ⟨_, rfl⟩ := h
      exact fun n hn => by cases hn
     ·cases h
    ·cases h
   | some ad => simp only [d7] at h; cases h
  | _ => simp only [d7] at h; cases h
 all_goals (simp only [d7] at h; cases h)
theorem Nr (a : fL) : (Act2.of a).u = [] := by cases a <;> rfl
section
variable {α : Type} {cx : Cx} {call : gH α} {d : Nat} {ops : Array Oper} {anc : List Nat} {k : K α} {r : α}
def tJ (cx : Cx) (call : gH α) (d : Nat) (ops : Array Oper) (anc : List Nat) (k : K α) (r : α) (q : Nat) (T : List DV) (H : Heap) : Prop :=
 (ops.toList.drop q = [] ∧ k T H = some r) ∨ ∃ o rest, ops.toList.drop q = o :: rest ∧ yo anc ops.size q = true ∧ gM ops o T = some true ∧
  ((∃ c f g x y, o.op = .call c ∧ c.callee = .value f ∧ dh T f = .fn (.func g) x y ∧ (match (if n6 g = true then (x ++ c.args.toList.map (dh T) ++ y, T, H) else kc (x ++ c.args.toList.map (dh T) ++ y) T H) with
   | (A, T, H) => call g A H fun v H u => dN cx call d ops anc rest (q + 1) true [] (dE (ku T u) o.dst v) H k) = some r) ∨
  (lv cx.P d o T H fun T H => dN cx call d ops anc rest (q + 1) true [] T H k) = some r)
theorem rv : ∀ {l : List FS} {A : List DV} {k : DV → Option α} {q : Option α}, nO l A k = some q → ∃ S X m, S ∈ l ∧ FS.pure S = true ∧ S.tin.pr ⟨[], []⟩ A (fun _ => none) = some (X, m) ∧ q = (S.fn X).bind fun y => k (gV (S.tout.T nam0 (S.out y)))
 | [], A, k, q, h => by cases h
 | S :: l, A, k, q, h => by
  simp only [nO] at h
  split at h
  ·rename_i hp
   split at h
   ·rename_i X m hX
    simp only [ab] at h
    exact ⟨S, X, m, by simp, hp, hX, h.symm⟩
   ·obtain ⟨S', X, m, h1, h2⟩ := rv h
    exact ⟨S', X, m, az _ h1, h2⟩
  ·obtain ⟨S', X, m, h1, h2⟩ := rv h
   exact ⟨S', X, m, az _ h1, h2⟩
theorem yM : ∀ {l : List FS} {A : List DV} {H : Heap} {b : Nat} {k : DV → Act2 → Option α} {q : Option α}, pf l A H b k = some q → ∃ S X m, S ∈ l ∧ S.tin.pr ⟨[], []⟩ A H = some (X, m) ∧ q = (S.fn X).bind fun y =>
   if S.tout.free (kA b m) ((dv m.u H).away m) = true then k (gV (S.tout.T (kA b m) (S.out y))) ⟨m.u, m.σ.map (·.2) ++ m.u ++ S.tout.names (kA b m), S.tout.H (kA b m) (S.out y) fun _ => none⟩ else none
 | [], A, H, b, k, q, h => by cases h
 | S :: l, A, H, b, k, q, h => by
  simp only [pf] at h
  split at h
  ·rename_i X m hX
   simp only [ab] at h
   exact ⟨S, X, m, by simp, hX, h.symm⟩
  ·obtain ⟨S', X, m, h1, h2⟩ := yM h
   exact ⟨S', X, m, az _ h1, h2⟩
theorem wC : ∀ {l : List FS} {A : List DV} {H : Heap} {k : DV → List Nat → Option α} {q : Option α}, mZ l A H k = some q → ∃ S X m, S ∈ l ∧ S.tin.pr ⟨[], []⟩ A H = some (X, m) ∧ q = (S.fn X).bind fun y => k (gV (S.tout.T nam0 (S.out y))) (m.σ.map (·.2) ++ m.u)
 | [], A, H, k, q, h => by cases h
 | S :: l, A, H, k, q, h => by
  simp only [mZ] at h
  split at h
  ·rename_i X m hX
   simp only [ab] at h
   exact ⟨S, X, m, by simp, hX, h.symm⟩
  ·obtain ⟨S', X, m, h1, h2⟩ := wC h
   exact ⟨S', X, m, az _ h1, h2⟩
theorem wD : ∀ {l : List QR} {A : List DV} {H : Heap} {k : Blk → List Nat → Option α} {q : Option α}, m9 l A H k = some q → ∃ S X m, S ∈ l ∧ S.tin.pr ⟨[], []⟩ A H = some (X, m) ∧ q = (S.fn X).bind fun xs => k (.row S.E S.s xs) (m.σ.map (·.2) ++ m.u)
 | [], A, H, k, q, h => by cases h
 | S :: l, A, H, k, q, h => by
  simp only [m9] at h
  split at h
  ·rename_i X m hX
   simp only [ab] at h
   exact ⟨S, X, m, by simp, hX, h.symm⟩
  ·obtain ⟨S', X, m, h1, h2⟩ := wD h
   exact ⟨S', X, m, az _ h1, h2⟩
theorem Gq {P : Program} {o : Oper} {c : Call} {T : List DV} {H : Heap} {k : DV → Act2 → Option α} {q : α} (h : vD P d o c T H k = some q) : ∃ x y t e s ys v a, c.args.toList = [x, y] ∧ c.argTypes.toList = [t, t] ∧ P.underlying t = some (.slice e) ∧ gF P 8 e = some s ∧ j9 P e s = true ∧ ez H s (dh T y) = some ys ∧ d7 P d o e s (dh T x) ys H (fun v a => some (v, a)) = some (v, a) ∧ k v a = some q := by
 unfold vD at h
 split at h
 ·rename_i x y t t' h1 h2
  split at h
  ·rename_i ht
   subst ht
   split at h
   ·rename_i e he
    split at h
    ·rename_i s hs
     split at h
     ·rename_i hz
      split at h
      ·rename_i ys hy
       rw [wz] at h
       obtain ⟨⟨v, a⟩, ha, hk⟩ := Option.bind_eq_some_iff.1 h
       exact ⟨x, y, t, e, s, ys, v, a, h1, h2, he, hs, hz, hy, ha, hk⟩
      ·cases h
     ·cases h
    ·cases h
   ·cases h
  ·cases h
 ·cases h
theorem Seg.snoc {m : Nat} {s0 : St} {rs : List Rec} (hst : oo ops anc = true) (h : Seg cx d ops anc m s0 rs) {e0 : Rec} (ho : ops.toList[m + rs.length]? = some e0.o) (hs : rt cx d ops e0 (dr rs s0)) (hfit : e0.Fit ops (dr rs s0)) {q : Bool} {log : List (Nat × Did)}
  (hlog : ∀ i e, rs[i]? = some e → (m + i, e.did) ∈ log) (hq : q = true → ∀ e ∈ rs, wl e.did = true)
  (hc : sH ops anc d (m + rs.length) q log e0.did = true) : Seg cx d ops anc m s0 (rs ++ [e0]) := by
 have old : ∀ {i : Nat} {e : Rec}, (rs ++ [e0])[i]? = some e → (i < rs.length ∧ rs[i]? = some e ∧ (rs ++ [e0]).take i = rs.take i) ∨ (i = rs.length ∧ e = e0 ∧ (rs ++ [e0]).take i = rs) := by
  intro i e hi
  rcases am i rs.length with hl | hl
  ·rw [aO hl] at hi
   exact .inl ⟨hl, hi, by rw [bC (by omega)]⟩
  ·rw [aW hl] at hi
   have hlt := (List.getElem?_eq_some_iff.1 hi).1
   simp only [aH, bU] at hlt
   have : i = rs.length := by omega
   subst this
   simp only [bq, bu, ab] at hi
   exact .inr ⟨rfl, hi.symm, by simp⟩
 refine ⟨fun i e hi => ?_, fun i e hi => ?_, fun i e hi => ?_, fun i e i' e' hlt hi' hi => ?_⟩
 ·rcases old hi with ⟨_, h1, _⟩ | ⟨rfl, rfl, _⟩
  ·exact h.op i e h1
  ·exact ho
 ·rcases old hi with ⟨_, h1, h2⟩ | ⟨rfl, rfl, h2⟩
  ·rw [h2]; exact h.st i e h1
  ·rw [h2]; exact hs
 ·rcases old hi with ⟨_, h1, h2⟩ | ⟨rfl, rfl, h2⟩
  ·rw [h2]; exact h.fit i e h1
  ·rw [h2]; exact hfit
 ·rcases old hi with ⟨hl, h1, h2⟩ | ⟨rfl, rfl, h2⟩
  ·rcases old hi' with ⟨_, h1', _⟩ | ⟨rfl, _, _⟩
   ·exact h.ap i e i' e' hlt h1' h1
   ·omega
  ·rcases old hi' with ⟨_, h1', _⟩ | ⟨rfl, _, _⟩
   ·refine Ke hc (hlog i' e' h1') (fun h0 => hq h0 e' (cE h1')) (EL hst (by omega) (h.op i' e' h1') ho)
   ·omega
theorem tK {l : List Oper} {q : Nat} {o : Oper} {rest : List Oper} (h : l.drop q = o :: rest) : l[q]? = some o ∧ l.drop (q + 1) = rest := by
 constructor
 ·rw [← List.head?_drop, h]; rfl
 ·rw [← List.tail_drop, h]; rfl
theorem zS (hst : oo ops anc = true) {m : Nat} {s0 : St} : ∀ {l : List Oper} {rs : List Rec} {j : Nat} {q : Bool} {log : List (Nat × Did)}, ops.toList.drop (m + rs.length) = l → j = m + rs.length → (∀ i e, rs[i]? = some e → (m + i, e.did) ∈ log) → (q = true → ∀ e ∈ rs, wl e.did = true) → Seg cx d ops anc m s0 rs → dN cx call d ops anc l j q log (dr rs s0).1 (dr rs s0).2 k = some r →
  ∃ rs', Seg cx d ops anc m s0 rs' ∧ tJ cx call d ops anc k r (m + rs'.length) (dr rs' s0).1 (dr rs' s0).2
 | [], rs, j, q, log, hl, hj, hlog, hq, hs, h => ⟨rs, hs, .inl ⟨hl, h⟩⟩
 | o :: l, rs, j, q, log, hl, hj, hlog, hq, hs, h => by
  subst hj
  obtain ⟨ho, hl2⟩ := tK hl
  have more : ∀ {e0 : Rec} {q' : Bool}, Seg cx d ops anc m s0 (rs ++ [e0]) → (q' = true → q = true ∧ wl e0.did = true) → dN cx call d ops anc l (m + rs.length + 1) q' ((m + rs.length, e0.did) :: log) (dr (rs ++ [e0]) s0).1 (dr (rs ++ [e0]) s0).2 k = some r → ∃ rs', Seg cx d ops anc m s0 rs' ∧ tJ cx call d ops anc k r (m + rs'.length) (dr rs' s0).1 (dr rs' s0).2 := by
   intro e0 q' hseg hq' h
   refine zS hst (l := l) (j := m + rs.length + 1) (rs := rs ++ [e0]) (by simp only [aF, aH, bU]; rw [← hl2]; congr 1) (by simp only [aF, aH, bU]; omega) (log := (m + rs.length, e0.did) :: log) (q := q') (fun i e hi => ?_) (fun h0 e he => ?_) hseg h
   ·rcases am i rs.length with hlt | hge
    ·rw [aO hlt] at hi
     exact az _ (hlog i e hi)
    ·rw [aW hge] at hi
     have hlt := (List.getElem?_eq_some_iff.1 hi).1
     simp only [aH, bU] at hlt
     have : i = rs.length := by omega
     subst this
     simp only [bq, bu, ab] at hi
     subst hi
     exact aD ..
   ·obtain ⟨h1, h2⟩ := hq' h0
    rcases aA.1 he with he | he
    ·exact hq h1 e he
    ·simp only [ao] at he
     subst he
     exact h2
  have next : ∀ {v : DV} {act : fL}, yH cx d ops o (dr rs s0).1 (dr rs s0).2 v (Act2.of act) → (if sH ops anc d (m + rs.length) q log (iI ops (dr rs s0).1 (dr rs s0).2 o v (fd (dr rs s0).1 o) (Act2.of act)) = true then
    dN cx call d ops anc l (m + rs.length + 1) (q && act.isNone) ((m + rs.length, iI ops (dr rs s0).1 (dr rs s0).2 o v (fd (dr rs s0).1 o) (Act2.of act)) :: log) (dE (dr rs s0).1 o.dst v) ((dr rs s0).2.act act) k else none) = some r → ∃ rs', Seg cx d ops anc m s0 rs' ∧ tJ cx call d ops anc k r (m + rs'.length) (dr rs' s0).1 (dr rs' s0).2 := by
   intro v act hst1 h
   split at h
   ·rename_i hc
    rw [← CU] at hc h
    refine more (e0 := ru ops (dr rs s0) o v (fd (dr rs s0).1 o) (Act2.of act)) (q' := q && act.isNone) (hs.snoc hst ho (.inl ⟨hst1, rfl⟩) (CV (by rw [Nr]; exact fun n hn => by cases hn)) hlog hq hc) (fun h0 => ?_) ?_
    ·simp only [aj] at h0
     refine ⟨h0.1, ?_⟩
     cases act with
     | none => rfl
     | some p => cases h0.2
    ·rw [pM]
     show dN cx call d ops anc l (m + rs.length + 1) (q && act.isNone) _ (dE (dJ (Act2.of act).u (dr rs s0).1) o.dst v) ((dr rs s0).2.act2 (Act2.of act)) k = some r
     rw [vH, Nr]
     exact h
   ·cases h
  have soft : ∀ {v : DV} {rd : List Nat} {act : Act2}, rt cx d ops (ru ops (dr rs s0) o v rd act) (dr rs s0) → (∀ n ∈ act.u, n ∈ act.W) → (if sH ops anc d (m + rs.length) q log (iI ops (dr rs s0).1 (dr rs s0).2 o v rd act) = true then
    dN cx call d ops anc l (m + rs.length + 1) false ((m + rs.length, iI ops (dr rs s0).1 (dr rs s0).2 o v rd act) :: log) (dE (dJ act.u (dr rs s0).1) o.dst v) ((dr rs s0).2.act2 act) k else none) = some r → ∃ rs', Seg cx d ops anc m s0 rs' ∧ tJ cx call d ops anc k r (m + rs'.length) (dr rs' s0).1 (dr rs' s0).2 := by
   intro v rd act hst1 hu h
   split at h
   ·rename_i hc
    rw [← CU] at hc h
    refine more (e0 := ru ops (dr rs s0) o v rd act) (q' := false) (hs.snoc hst ho hst1 (CV hu) hlog hq hc) (fun h => by cases h) ?_
    rw [pM]
    exact h
   ·cases h
  have hst0 : dr rs s0 = ((dr rs s0).1, (dr rs s0).2) := rfl
  have hsoft : ∀ {v : DV} {act : Act2}, rn cx ops o (dr rs s0).1 (dr rs s0).2 v act → rt cx d ops (ru ops (dr rs s0) o v act.W act) (dr rs s0) := fun h => .inr (.inl ⟨h, rfl⟩)
  have hsoftA : ∀ {v : DV} {act : Act2}, yI cx d ops o (dr rs s0).1 (dr rs s0).2 v act → rt cx d ops (ru ops (dr rs s0) o v (fd (dr rs s0).1 o ++ act.W) act) (dr rs s0) := fun h => .inr (.inr (.inl ⟨h, rfl⟩))
  have hsoftQ : ∀ {v : DV} {act : Act2} {rd : List Nat}, vI cx ops o (dr rs s0).1 (dr rs s0).2 v act rd → rt cx d ops (ru ops (dr rs s0) o v rd act) (dr rs s0) := fun h => .inr (.inr (.inr (.inl h)))
  have hsoftR : ∀ {v : DV} {act : Act2} {rd : List Nat}, qc cx d ops o (dr rs s0).1 (dr rs s0).2 v act rd → rt cx d ops (ru ops (dr rs s0) o v rd act) (dr rs s0) := fun h => .inr (.inr (.inr (.inr h)))
  generalize hTT : (dr rs s0).1 = T at *
  generalize hHH : (dr rs s0).2 = H at *
  have hrun : gM ops o T = some true → ∀ {R : Option α}, zP cx call d ops.size anc o (m + rs.length) T H (fun v act => if sH ops anc d (m + rs.length) q log (iI ops T H o v (fd T o) (Act2.of act)) = true then
    dN cx call d ops anc l (m + rs.length + 1) (q && act.isNone) ((m + rs.length, iI ops T H o v (fd T o) (Act2.of act)) :: log) (dE T o.dst v) (H.act act) k else none) (fun rd v act => if sH ops anc d (m + rs.length) q log (iI ops T H o v rd act) = true then
    dN cx call d ops anc l (m + rs.length + 1) false ((m + rs.length, iI ops T H o v rd act) :: log) (dE (dJ act.u T) o.dst v) (H.act2 act) k else none) (fun T H => dN cx call d ops anc l (m + rs.length + 1) true [] T H k) = some r → ∃ rs', Seg cx d ops anc m s0 rs' ∧ tJ cx call d ops anc k r (m + rs'.length) (dr rs' s0).1 (dr rs' s0).2 := by
   intro hw R h
   have plain : (eO cx.P d o T H fun v act => if sH ops anc d (m + rs.length) q log (iI ops T H o v (fd T o) (Act2.of act)) = true then
    dN cx call d ops anc l (m + rs.length + 1) (q && act.isNone) ((m + rs.length, iI ops T H o v (fd T o) (Act2.of act)) :: log) (dE T o.dst v) (H.act act) k else none) = some r → ∃ rs', Seg cx d ops anc m s0 rs' ∧ tJ cx call d ops anc k r (m + rs'.length) (dr rs' s0).1 (dr rs' s0).2 := by
    intro h
    rw [qa] at h
    obtain ⟨⟨v, act⟩, h1, h2⟩ := Option.bind_eq_some_iff.1 h
    exact next ⟨true, hw, .inl ⟨rfl, .inl ⟨act, h1, rfl⟩⟩⟩ h2
   unfold zP at h
   split at h
   ·rename_i c hoc
    split at h
    ·rename_i f hcf
     split at h
     ·rename_i g x y hf
      split at h
      ·rename_i v hv
       exact next (act := none) ⟨true, hw, .inl ⟨rfl, .inr (.inr ⟨c, f, g, x, y, hoc, hcf, hf, hv, rfl⟩)⟩⟩ h
      split at h
      ·rename_i q hq
       split at hq
       ·rename_i hent
        obtain ⟨S, X, mm, h1, h2, h3, rfl⟩ := rv hq
        obtain ⟨Y, h4, h5⟩ := Option.bind_eq_some_iff.1 h
        exact next (act := none) ⟨true, hw, .inl ⟨rfl, .inr (.inl ⟨c, f, g, x, y, S, X, mm, Y, hoc, hcf, hf, hent, h1, h2, h3, h4, rfl, rfl⟩)⟩⟩ h5
       ·cases hq
      split at h
      ·rename_i q hq
       split at hq
       ·rename_i hent
        obtain ⟨S, X, mm, h1, h2, rfl⟩ := wC hq
        obtain ⟨Y, h4, h5⟩ := Option.bind_eq_some_iff.1 h
        have hQ : vI cx ops o T H _ _ _ := ⟨hw, c, f, g, x, y, S, X, mm, Y, hoc, hcf, hf, hent, h1, h2, h4, rfl, rfl, rfl⟩
        exact soft (hsoftQ hQ) (fun n hn => by cases hn) h5
       ·cases hq
      split at h
      ·rename_i q hq
       split at hq
       ·rename_i hent
        obtain ⟨S, X, mm, h1, h2, rfl⟩ := wD hq
        obtain ⟨Y, h4, h5⟩ := Option.bind_eq_some_iff.1 h
        split at h5
        ·rename_i hb
         have hQ : qc cx d ops o T H _ _ _ := ⟨hw, c, f, g, x, y, S, X, mm, Y, hoc, hcf, hf, hent, h1, h2, h4, hb, rfl, rfl, rfl⟩
         exact soft (hsoftR hQ) (fun n hn => by cases hn) h5
        ·cases h5
       ·cases hq
      ·split at h
       ·rename_i hb
        exact ⟨rs, hs, .inr ⟨o, l, hl, hb, by rw [hTT]; exact hw, .inl ⟨c, f, g, x, y, hoc, hcf, by rw [hTT]; exact hf, by rw [hTT, hHH]; exact h⟩⟩⟩
       ·split at h
        ·rename_i q hq
         split at hq
         ·rename_i hent
          obtain ⟨S, X, mm, h1, h2, rfl⟩ := yM hq
          obtain ⟨Y, h4, h5⟩ := Option.bind_eq_some_iff.1 h
          split at h5
          ·rename_i hfree
           have hS : rn cx ops o T H _ _ := ⟨hw, c, f, g, x, y, S, X, mm, Y, _, hoc, hcf, hf, hent, h1, h2, h4, hfree, rfl, rfl⟩
           exact soft (hsoft hS) (My hS) h5
          ·cases h5
         ·cases hq
        ·cases h
     ·cases h
    ·rename_i hcf
     split at h
     ·rename_i hb
      exact ⟨rs, hs, .inr ⟨o, l, hl, hb, by rw [hTT]; exact hw, .inr (by rw [hTT, hHH]; exact h)⟩⟩
     ·obtain ⟨x, y, t, e, s, ys, v, a, q1, q2, q3, q4, q5, q6, q7, q8⟩ := Gq h
      exact soft (hsoftA ⟨hw, c, x, y, t, e, s, ys, hoc, hcf, q1, q2, q3, q4, q5, q6, q7⟩) (HV q7) q8
    ·exact plain h
   ·rename_i q x y ho'
    split at h
    ·rename_i hb
     simp only [aj] at hb
     exact ⟨rs, hs, .inr ⟨o, l, hl, hb.2, by rw [hTT]; exact hw, .inr (by rw [hTT, hHH]; exact h)⟩⟩
    ·exact plain h
   ·exact plain h
  unfold dN at h
  simp only at h
  split at h
  ·rename_i hg
   exact hrun (by simp [gM, hg]) (R := some r) h
  ·rename_i j want hg
   split at h
   ·rename_i g hj
    split at h
    ·rename_i b hb
     have hfix : T.set g (.sc (.bool b)) = T := CF hb (by simp)
     have hw : gM ops o T = some (b == want) := by unfold gM; rw [hg]; simp only [hj, hb]
     cases b with
     | true =>
      rw [hfix] at h
      cases want with
      | true => exact hrun hw (R := some r) h
      | false => exact next (act := none) ⟨false, hw, .inr ⟨rfl, rfl, rfl⟩⟩ h
     | false =>
      rw [hfix] at h
      cases want with
      | true => exact next (act := none) ⟨false, hw, .inr ⟨rfl, rfl, rfl⟩⟩ h
      | false => exact hrun hw (R := some r) h
    ·rename_i hb
     have hw : gM ops o T = some false := by unfold gM; rw [hg]; simp only [hj, hb]
     exact next (act := none) ⟨false, hw, .inr ⟨rfl, rfl, rfl⟩⟩ h
    ·cases h
   ·cases h
end
def cnt (S : Nat → Bool) : Nat → Nat
 | 0 => 0
 | n + 1 => cnt S n + (if S n then 0 else 1)
theorem AH {S S' : Nat → Bool} : ∀ {n : Nat}, (∀ i, i < n → S i = S' i) → cnt S n = cnt S' n
 | 0, _ => rfl
 | n + 1, h => by simp only [cnt]; rw [AH (fun i hi => h i (by omega)), h n (by omega)]
theorem Fg {S : Nat → Bool} {j : Nat} (hj : S j = false) : ∀ {n : Nat}, j < n → cnt (fun i => S i || i == j) n + 1 = cnt S n
 | 0, h => by omega
 | n + 1, h => by
  simp only [cnt]
  rcases am j n with h1 | h1
  ·have := Fg hj h1
   have hne : (n == j) = false := by rw [aX]; omega
   simp only [hne, bo]
   omega
  ·have : n = j := by omega
   subst this
   rw [AH (S := fun i => S i || i == n) (S' := S) (fun i hi => by
    have hne : (i == n) = false := by rw [aX]; omega
    simp only [hne, bo])]
   simp [hj]
theorem oz {S : Nat → Bool} : ∀ {n : Nat}, cnt S n = 0 → ∀ i, i < n → S i = true
 | n + 1, h, i, hi => by
  simp only [cnt] at h
  rcases am i n with h1 | h1
  ·exact oz (by omega) i h1
  ·have : i = n := by omega
   subst this
   cases hS : S i with
   | true => rfl
   | false => rw [hS] at h; simp at h
theorem CW {S : Nat → Bool} (h : ∀ i, S i = false) : ∀ n, cnt S n = n
 | 0 => rfl
 | n + 1 => by simp only [cnt, CW h n, h n]; rfl
theorem tL {S : Nat → Bool} : ∀ {l : List Rec} {m : Nat} {s : St}, (∀ i, m ≤ i → S i = false) → eV m S l s = s
 | [], _, _, _ => rfl
 | e :: r, m, s, h => by
  simp only [eV, h m (ak _), aL, aC]
  exact tL (fun i hi => h i (by omega))
abbrev gq (listed : Array Bool) : Nat → Bool := fun i => listed.getD i false
theorem Mz {listed : Array Bool} {j : Nat} (h : j < listed.size) : gq (listed.setIfInBounds j true) = fun i => gq listed i || i == j := by
 funext i
 simp only [gq, b9, Array.getElem?_setIfInBounds]
 by_cases e : j = i
 ·subst e; simp [h]
 ·have : (i == j) = false := by rw [aX]; exact fun e' => e e'.symm
  simp [e, this]
theorem xg {listed : Array Bool} {j : Nat} (h : j < listed.size) : listed.getD j true = gq listed j := by
 simp [gq, h]
section
variable {α : Type} {cx : Cx} {call : gH α} {d : Nat} {ops : Array Oper} {anc : List Nat} {k : K α} {r : α} {Q : Exit → Act → World → Prop}
theorem Kf (hcall : rj cx.P call) (hsp : ∀ g S, S ∈ cx.specs g → iu cx.P g S) (hp : ∀ g S, S ∈ cx.specs g → FS.pure S = true → tF cx.P g S) (htab : ∀ g t, cx.tabs g = some t → mP cx.P g t) (hqs : ∀ g S, S ∈ cx.qs g → vJ cx.P g S) (hqr : ∀ g S, S ∈ cx.qr g → tG cx.P g S) (ha : tn 0 ops.toList [] = some anc) (hstat : oo ops anc = true) : ∀ (fuel : Nat) {listed : Array Bool} {m : Nat} {s0 : St} {rs : List Rec} {I : In} {w : World} {a : Act},
  listed.size = ops.size → cnt (gq listed) ops.size = fuel → (∀ j, gq listed j = true → HU ops listed j) → (∀ i, i < m → gq listed i = true) → (∀ i, m + rs.length ≤ i → gq listed i = false) → Seg cx d ops anc m s0 rs → tJ cx call d ops anc k r (m + rs.length) (dr rs s0).1 (dr rs s0).2 →
  TR I w (eV m (gq listed) rs s0).1 a → HR I w (eV m (gq listed) rs s0).2 → (∀ I' w' T' H' a', Ext I w I' w' → HR I' w' H' → TR I' w' T' a' → k T' H' = some r → Q .normal a' w') → wpAny cx.P .any ops Q fuel listed a w := by
 intro fuel
 have done : ∀ {listed : Array Bool} {m : Nat} {s0 : St} {rs : List Rec} {I : In} {w : World} {a : Act}, listed.size = ops.size → (∀ i, i < ops.size → gq listed i = true) → (∀ i, m + rs.length ≤ i → gq listed i = false) → tJ cx call d ops anc k r (m + rs.length) (dr rs s0).1 (dr rs s0).2 → Seg cx d ops anc m s0 rs →
   TR I w (eV m (gq listed) rs s0).1 a → HR I w (eV m (gq listed) rs s0).2 → (∀ I' w' T' H' a', Ext I w I' w' → HR I' w' H' → TR I' w' T' a' → k T' H' = some r → Q .normal a' w') → Q .normal a w := by
  intro listed m s0 rs I w a hsz hall hpost ht hs hT hH hQ
  have hacc : eV m (gq listed) rs s0 = dr rs s0 := xf fun i hi => by
   have := hs.op i rs[i] (ax hi)
   have := (List.getElem?_eq_some_iff.1 this).1
   exact hall (m + i) (by simpa using this)
  rw [hacc] at hT hH
  rcases ht with ⟨_, h⟩ | ⟨o, rest, h, _⟩
  ·exact hQ I w _ _ a (Ext.refl I w) hH hT h
  ·obtain ⟨h1, _⟩ := tK h
   have h2 := (List.getElem?_eq_some_iff.1 h1).1
   have h3 := hall (m + rs.length) (by simpa using h2)
   rw [hpost _ (ak _)] at h3
   cases h3
 have allOf : ∀ {listed : Array Bool}, listed.size = ops.size → Region.ready .any ops listed = [] → ∀ i, i < ops.size → gq listed i = true := by
  intro listed hsz hr
  intro i
  induction i using Nat.strongRecOn with
  | _ i ih =>
   intro hi
   cases hS : gq listed i with
   | true => rfl
   | false =>
    obtain ⟨_, hsp⟩ := tI ha rfl
    obtain ⟨h1, _⟩ := hsp i ops[i] (by simp [hi])
    have : i ∈ Region.ready .any ops listed := by
     rw [mem_ready]
     refine ⟨by rw [xg (by omega)]; exact hS, ops[i], by simp [hi], fun e he hb => ?_⟩
     have := h1 e (Array.mem_toList_iff.2 he) hb
     exact ih e.on (by omega) (by omega)
    rw [hr] at this
    cases this
 induction fuel with
 | zero =>
  intro listed m s0 rs I w a hsz hcnt hcl hpre hpost hs ht hT hH hQ
  have hall := oz hcnt
  refine ⟨?_, done hsz hall hpost ht hs hT hH hQ⟩
  rw [List.eq_nil_iff_forall_not_mem]
  intro i hi
  rw [mem_ready] at hi
  obtain ⟨h1, o, ho, _⟩ := hi
  have := (Array.getElem?_eq_some_iff.1 ho).1
  rw [xg (by omega), hall i this] at h1
  cases h1
 | succ fuel ih =>
  intro listed m s0 rs I w a hsz hcnt hcl hpre hpost hs ht hT hH hQ
  refine ⟨fun hr => done hsz (allOf hsz hr) hpost ht hs hT hH hQ, fun i hi => ?_⟩
  rw [mem_ready] at hi
  obtain ⟨hun, o, ho, haft⟩ := hi
  have hlt := (Array.getElem?_eq_some_iff.1 ho).1
  rw [xg (by omega)] at hun
  have hA : HU ops listed i := fun o' ho' e he hb => by
   rw [ho] at ho'
   simp only [ab] at ho'
   subst ho'
   exact haft e he hb
  have hanc := yL ha hcl i i (ak _) hlt hA
  have hset := Mz (listed := listed) (j := i) (by omega)
  have hcl' : ∀ j, gq (listed.setIfInBounds i true) j = true → HU ops (listed.setIfInBounds i true) j := by
   intro j hj o' ho' e he hb
   rw [hset] at hj
   simp only [aE, ai] at hj
   rcases hj with hj | rfl
   ·exact getD_set_true (hcl j hj o' ho' e he hb)
   ·exact getD_set_true (hA o' ho' e he hb)
  have hcnt' : cnt (gq (listed.setIfInBounds i true)) ops.size = fuel := by
   have := Fg hun hlt
   rw [hset]
   omega
  have him : m ≤ i := by
   rcases am i m with h | h
   ·rw [hpre i h] at hun; cases hun
   ·exact h
  rcases am i (m + rs.length) with hiq | hiq
  ·obtain ⟨j, rfl⟩ : ∃ j, i = m + j := ⟨i - m, by omega⟩
   have hj : j < rs.length := by omega
   have hje : rs[j]? = some rs[j] := ax hj
   generalize rs[j] = e at hje
   have heo : e.o = o := by
    have := hs.op j e hje
    simp only [cr] at this
    rw [ho] at this
    simpa using this.symm
   have hap1 : ∀ i f, i < j → rs[i]? = some f → gq listed (m + i) = false → iM d ops f.did e.did = true := fun i f hi hf hu => by
    rcases hs.ap j e i f hi hf hje with h | h
    ·rw [show gq listed (m + i) = true from hanc _ h] at hu; cases hu
    ·exact h
   have hap2 : ∀ k f, j < k → rs[k]? = some f → gq listed (m + k) = true → iM d ops e.did f.did = true := fun k f hk hf hl => by
    rcases hs.ap k f j e hk hje hf with h | h
    ·have hkl : m + k < ops.size := by
      have := (List.getElem?_eq_some_iff.1 (hs.op k f hf)).1
      simpa using this
     have := yL ha hcl (m + k) (m + k) (ak _) hkl (hcl _ hl) _ h
     rw [show gq listed (m + j) = true from this] at hun
     cases hun
    ·exact h
   have hfe := hs.fit j e hje
   have hagr := J5 (L := e.o.looksAt ops) (N := fun n => n ∈ e.r ∨ gu d e.o n = true) (s := s0) hje hun (fun i f h1 h2 h3 => J9 (hs.fit i f h2) (hap1 i f h1 h2 h3)) (fun k f h1 h2 h3 => HO hfe (hs.fit k f h2) (hap2 k f h1 h2 h3))
   have hput := J4 (s := s0) hje hun (fun k f h1 h2 h3 => Np hfe (hs.fit k f h2) (hap2 k f h1 h2 h3))
   rw [← hset] at hput
   have fin : ∀ {K : Act → World → Prop}, (∀ I' w' u, Ext I w I' w' → HR I' w' ((eV m (gq listed) rs s0).2.act2 e.act) → TR I' w' (dE (dJ e.act.u (eV m (gq listed) rs s0).1) e.o.dst e.v) (a.put e.o.dst u) → K (a.put e.o.dst u) w') → if Region.wanted e.o (yielded ops a.tmps) then e.o.wp cx.P a w K Q ∨ (e.o.asks cx.P a w ∧ LetsOut Q) else K (a.put e.o.dst undef) w := by
    intro K hk
    rcases hs.st j e hje with ⟨hst, hr⟩ | ⟨hst, hr⟩ | ⟨hst, hr⟩ | hst | hst
    ·rw [hr] at hagr
     exact Ka hp htab hT hH (HJ hagr hst) hk
    ·exact Kc hsp hT hH (HL ⟨hagr.1, hagr.2.1, fun n hn => hagr.2.2 n (.inl (by rw [hr]; exact hn))⟩ hst) hk
    ·exact Kd hT hH (HN ⟨hagr.1, hagr.2.1, fun n hn => hagr.2.2 n (.inl (by rw [hr]; exact hn))⟩ hst) hk
    ·exact Kb hqs hT hH (HM ⟨hagr.1, hagr.2.1, fun n hn => hagr.2.2 n (.inl hn)⟩ hst) hk
    ·exact HS hqr hT hH (Gn ⟨hagr.1, hagr.2.1, fun n hn => hagr.2.2 n (.inl hn)⟩ hst) hk
   unfold wpOp
   rw [ho]
   simp only
   rw [← heo]
   refine fin fun I' w' u he hH' hT' => ?_
   refine ih (m := m) (s0 := s0) (rs := rs) (I := I') (by simpa using hsz) hcnt' hcl' (fun i hi => ?_) (fun i hi => ?_) hs ht (by rw [hput]; exact hT') (by rw [hput]; exact hH') (fun I2 w2 T2 H2 a2 he2 => hQ I2 w2 T2 H2 a2 (he.trans he2))
   ·rw [hset]
    simp only [aE]
    exact .inl (hpre i hi)
   ·rw [hset]
    simp only [bP, aX]
    exact ⟨hpost i hi, by omega⟩
  ·rcases ht with ⟨h0, _⟩ | ⟨o', rest, h0, hbar, hw, hgo⟩
   ·have := congrArg List.length h0
    simp at this
    omega
   ·obtain ⟨h1, h2⟩ := tK h0
    unfold yo at hbar
    simp only [aj, aN, bh, aE, av] at hbar
    have hiq' : i = m + rs.length := by
     rcases am (m + rs.length) i with h | h
     ·rcases hbar.2 i hlt with h' | h'
      ·omega
      ·have := hanc _ h'
       rw [show listed.getD (m + rs.length) false = false from hpost _ (ak _)] at this
       cases this
     ·omega
    subst hiq'
    have hoo : o' = o := by
     rw [cr, ho] at h1
     simpa using h1.symm
    subst hoo
    have hacc : eV m (gq listed) rs s0 = dr rs s0 := xf fun i hi => hanc _ (hbar.1 (m + i) (by omega))
    rw [hacc] at hT hH
    have next : ∀ {I' : In} {w' : World} {T' : List DV} {H' : Heap} {a' : Act}, Ext I w I' w' → HR I' w' H' → TR I' w' T' a' → dN cx call d ops anc rest (m + rs.length + 1) true [] T' H' k = some r → wpAny cx.P .any ops Q fuel (listed.setIfInBounds (m + rs.length) true) a' w' := by
     intro I' w' T' H' a' he hH' hT' hev
     obtain ⟨rs', hs', ht'⟩ := zS hstat (m := m + rs.length + 1) (s0 := (T', H')) (rs := []) (by simpa using h2) rfl (fun i e h => by simp at h) (fun _ e h => by simp at h) Seg.nil hev
     have hnone : ∀ i, m + rs.length + 1 ≤ i → gq (listed.setIfInBounds (m + rs.length) true) i = false := by
      intro i hi
      rw [hset]
      simp only [bP, aX]
      exact ⟨hpost i (by omega), by omega⟩
     have h0 : eV (m + rs.length + 1) (gq (listed.setIfInBounds (m + rs.length) true)) rs' (T', H') = (T', H') := tL hnone
     refine ih (m := m + rs.length + 1) (s0 := (T', H')) (rs := rs') (I := I') (by simpa using hsz) hcnt' hcl' (fun i hi => ?_) (fun i hi => hnone i (by omega)) hs' ht' (by rw [h0]; exact hT') (by rw [h0]; exact hH') (fun I2 w2 T2 H2 a2 he2 => hQ I2 w2 T2 H2 a2 (he.trans he2))
     rw [hset]
     simp only [aE, ai]
     rcases am i (m + rs.length) with h | h
     ·exact .inl (hanc _ (hbar.1 i h))
     ·exact .inr (by omega)
    unfold wpOp
    rw [ho]
    simp only
    rw [mg hT hw, if_pos rfl]
    refine .inl ?_
    rcases hgo with ⟨c, f, g, x, y, k1, k2, k3, k4⟩ | hgo
    ·exact CG hcall (sp := n6 g) (k := fun T H => dN cx call d ops anc rest (m + rs.length + 1) true [] T H k) hT hH k1 k2 k3 k4 fun I' w' T' H' u he hH' hT' h' => next he hH' hT' h'
    ·obtain ⟨T', H', h1, h2⟩ := CB hT hH hgo
     exact h2.wp fun I' w' u he hH' hT' => next he hH' hT' h1
theorem Same.world {I : In} {w w' : World} (h : w'.heap = w.heap) : Same I I w w' := ⟨⟨fun _ h => h, fun b _ => by rw [h], fun _ _ _ h => h⟩, fun _ _ h => h, fun _ _ _ h => h⟩
theorem HR.world {I : In} {w w' : World} {H : Heap} (h : w'.heap = w.heap) (hH : HR I w H) : HR I w' H :=
 HR.of (fun n b hb => (hH.br hb).keep (Same.world h) (fun _ _ h => ⟨h, rfl⟩) (fun e g _ _ => by rw [h])) hH.dom (fun n e b h1 h2 => by rw [h]; exact hH.lt n e b h1 h2) hH.inj (fun b hb => by rw [h]; exact hH.rlt b hb) hH.one
theorem HX (hcall : rj cx.P call) (hsp : ∀ g S, S ∈ cx.specs g → iu cx.P g S) (hp : ∀ g S, S ∈ cx.specs g → FS.pure S = true → tF cx.P g S) (htab : ∀ g t, cx.tabs g = some t → mP cx.P g t) (hqs : ∀ g S, S ∈ cx.qs g → vJ cx.P g S) (hqr : ∀ g S, S ∈ cx.qr g → tG cx.P g S) (hf : cx.P.follows .mixedOrders = true) (ha : tn 0 ops.toList [] = some anc) (hstat : oo ops anc = true) {I : In} {w : World} {T : List DV} {a : Act} {H : Heap} {id : Nat} (hT : TR I w T a) (hH : HR I w H) (h : dN cx call d ops anc ops.toList 0 true [] T H k = some r)
  (hQ : ∀ I' w' T' H' a', Ext I w I' w' → HR I' w' H' → TR I' w' T' a' → k T' H' = some r → Q .normal a' w') : (Code.region id ops true).wp cx.P Q a w := by
 refine wp_region_any hf ?_
 obtain ⟨rs', hs', ht'⟩ := zS hstat (m := 0) (s0 := (T, H)) (rs := []) (by simp) rfl (fun i e h => by simp at h) (fun _ e h => by simp at h) Seg.nil h
 have hn : ∀ i, gq (Array.replicate ops.size false) i = false := by
  intro i
  simp only [gq, b9, Array.getElem?_replicate]
  split <;> rfl
 have h0 : eV 0 (gq (Array.replicate ops.size false)) rs' (T, H) = (T, H) := tL fun i _ => hn i
 refine Kf hcall hsp hp htab hqs hqr ha hstat ops.size (m := 0) (s0 := (T, H)) (rs := rs') (I := I) (by simp) (CW hn _) (fun j hj => by rw [hn j] at hj; cases hj) (fun i hi => by omega) (fun i _ => hn i) hs' ht' ?_ ?_ ?_
 ·rw [h0]; exact TR.keep (w := w) (Same.world (w := w) rfl) hT
 ·rw [h0]; exact HR.world (w := w) rfl hH
 ·intro I' w' T' H' a' he
  exact hQ I' w' T' H' a' ⟨he.obj, he.ro, he.same, he.own, he.newR, he.size, he.os, he.tape, he.output, he.fam, he.famE⟩
end
def Q0 : Ex → Exit → Prop
 | .norm, .normal => True
 | .exit i, .exit j => i = j
 | .goto i, .goto j => i = j
 | .ret, .ret => True
 | _, _ => False
section
variable {α : Type} {P : Program} {I : In} {w : World} {T : List DV} {a : Act} {H : Heap}
def PostC (I : In) (w : World) (k : Ex → List DV → Heap → Option α) (r : α) : Exit → Act → World → Prop := fun e a' w' => ∃ I' T' H' x, Q0 x e ∧ Ext I w I' w' ∧ HR I' w' H' ∧ TR I' w' T' a' ∧ k x T' H' = some r
theorem PostC.ext {I I1 : In} {w w1 : World} {k : Ex → List DV → Heap → Option α} {r : α} (h : Ext I w I1 w1) {e : Exit} {a' : Act} {w' : World} (hp : PostC I1 w1 k r e a' w') : PostC I w k r e a' w' := by
 obtain ⟨I', T', H', x, h1, h2, h3⟩ := hp
 exact ⟨I', T', H', x, h1, h.trans h2, h3⟩
def LoopOk (P : Program) (L : Loop) (c : Code) : Prop := ∀ {α : Type} {I : In} {w : World} {T : List DV} {a : Act} {H : Heap} {b : Nat} {k : Ex → List DV → Heap → Option α} {r : α}, TR I w T a → HR I w H → pg L b T H k = some r → c.wp P (PostC I w k r) a w
theorem yN {L : Loop} {c : Code} (h : ∀ {α : Type} {I : In} {w : World} {T : List DV} {a : Act} {H : Heap} {b : Nat} {k : Ex → List DV → Heap → Option α} {r : α}, TR I w T a → HR I w H → tp L b T H k = some r → c.wp P (PostC I w k r) a w) : LoopOk P L c := by
 intro α I w T a H b k r hT hH hk
 unfold pg at hk
 split at hk
 rename_i A T1 H1 hs
 obtain ⟨I1, g1, g2, g3, _⟩ := jt hH hT .nil hs
 exact Code.wp_mono (fun e a' w' hp => PostC.ext g2 hp) (h g3 g1 hk)
def eF : Code → List (Nat × Code)
 | .seq a b => (Ql b, a) :: (eF a ++ eF b)
 | .cond _ a b => eF a ++ eF b
 | .block _ c => eF c
 | .loop c => (gn c, .loop c) :: eF c
 | .scope c => eF c
 | _ => []
structure Good (cx : Cx) : Prop where
 specs : ∀ f S, S ∈ cx.specs f → iu cx.P f S
 loops : ∀ f id L, cx.loops f id = some L → ∀ fn c c', cx.P.funcs[f]? = some fn → fn.body = some c → (id, c') ∈ eF c → LoopOk cx.P L c'
 pures : ∀ f S, S ∈ cx.specs f → FS.pure S = true → tF cx.P f S
 tabs : ∀ f t, cx.tabs f = some t → mP cx.P f t
 qs : ∀ f S, S ∈ cx.qs f → vJ cx.P f S
 qr : ∀ f S, S ∈ cx.qr f → tG cx.P f S
theorem tM {c : Code} {Q : Exit → Act → World → Prop} {a : Act} {w : World} {n : Nat} (Inv : Nat → Act → World → Prop) (h0 : Inv n a w) (hz : ∀ a w, ¬ Inv 0 a w) (hs : ∀ n a w, Inv (n + 1) a w → c.wp P (Exit.then (Inv n) Q) a w) : (Code.loop c).wp P Q a w := by
 have least : ∀ (p : Nat → Prop) (n : Nat), p n → ∃ m, p m ∧ ∀ k, p k → m ≤ k := by
  intro p n
  induction n using Nat.strongRecOn with
  | _ n ih =>
   intro hn
   by_cases h : ∃ m, m < n ∧ p m
   ·obtain ⟨m, h1, h2⟩ := h
    exact ih m h1 h2
   ·refine ⟨n, hn, fun k hk => ?_⟩
    rcases am k n with h1 | h1
    ·exact absurd ⟨k, h1, hk⟩ h
    ·exact h1
 have hμ : ∀ p : Act × World, ∃ m : Nat, (∃ n, Inv n p.1 p.2) → Inv m p.1 p.2 ∧ ∀ k, Inv k p.1 p.2 → m ≤ k := by
  intro p
  by_cases h : ∃ n, Inv n p.1 p.2
  ·obtain ⟨n, hn⟩ := h
   obtain ⟨m, h1, h2⟩ := least (fun n => Inv n p.1 p.2) n hn
   exact ⟨m, fun _ => ⟨h1, h2⟩⟩
  ·exact ⟨0, fun h' => absurd h' h⟩
 obtain ⟨μ, hμ⟩ := Classical.axiomOfChoice hμ
 refine wp_loop (fun a w => ∃ n, Inv n a w) (fun a w => μ (a, w)) ⟨n, h0⟩ ?_
 intro a w h
 obtain ⟨hf, _⟩ := hμ (a, w) h
 show c.wp P (Exit.then (fun a' w' => (∃ n, Inv n a' w') ∧ μ (a', w') < μ (a, w)) Q) a w
 generalize μ (a, w) = m at hf
 cases m with
 | zero => exact absurd hf (hz a w)
 | succ m =>
  refine Code.wp_mono ?_ (hs m a w hf)
  intro e a' w' he
  cases e with
  | normal => exact ⟨⟨m, he⟩, Nat.lt_succ_of_le ((hμ (a', w') ⟨m, he⟩).2 m he)⟩
  | _ => exact he
theorem CX {c : Operand} {t : Bool} (h : dh T c = .sc (.bool t)) : JW c t T = T := by
 cases c with
 | tmp i => exact CF h (by simp)
 | _ => rfl
variable {cx : Cx} {call : gH α}
theorem AI {c : Code} {body : List DV → Heap → (Ex → List DV → Heap → Option α) → Option α} (hb : ∀ {I : In} {w : World} {T : List DV} {a : Act} {H : Heap} {k : Ex → List DV → Heap → Option α} {r : α}, TR I w T a → HR I w H → body T H k = some r → c.wp P (PostC I w k r) a w) {n : Nat} {k : Ex → List DV → Heap → Option α} {r : α} (hT : TR I w T a) (hH : HR I w H) (h : lw body n T H k = some r) : (Code.loop c).wp P (PostC I w k r) a w := by
 refine tM (n := n) (fun n a' w' => ∃ I' T' H', Ext I w I' w' ∧ HR I' w' H' ∧ TR I' w' T' a' ∧ lw body n T' H' k = some r) ⟨I, T, H, Ext.refl I w, hH, hT, h⟩ ?_ ?_
 ·rintro a w ⟨I', T', H', _, _, _, h⟩
  cases h
 ·rintro n a1 w1 ⟨I1, T1, H1, he, hH1, hT1, h1⟩
  simp only [lw] at h1
  refine Code.wp_mono ?_ (hb hT1 hH1 h1)
  rintro e a2 w2 ⟨I2, T2, H2, x, hx, he2, hH2, hT2, h2⟩
  cases e <;> cases x <;> first | exact hx.elim | skip
  ·exact ⟨I2, T2, H2, he.trans he2, hH2, hT2, h2⟩
  ·exact ⟨I2, T2, H2, _, hx, he.trans he2, hH2, hT2, h2⟩
  ·exact ⟨I2, T2, H2, _, hx, he.trans he2, hH2, hT2, h2⟩
  ·exact ⟨I2, T2, H2, _, hx, he.trans he2, hH2, hT2, h2⟩
theorem tN (hg : Good cx) (hcall : rj cx.P call) {f d : Nat} : ∀ (c : Code), (∀ id L, cx.loops f id = some L → ∀ c', (id, c') ∈ eF c → LoopOk cx.P L c') → ∀ {I : In} {w : World} {T : List DV} {a : Act} {H : Heap} {k : Ex → List DV → Heap → Option α} {r : α}, TR I w T a → HR I w H → dW cx call f d c T H k = some r → c.wp cx.P (PostC I w k r) a w := by
 intro c
 induction c with
 | skip => intro hl I w T a H k r hT hH h; exact wp_skip ⟨I, T, H, .norm, trivial, Ext.refl I w, hH, hT, h⟩
 | label l => intro hl I w T a H k r hT hH h; exact wp_label ⟨I, T, H, .norm, trivial, Ext.refl I w, hH, hT, h⟩
 | exit id => intro hl I w T a H k r hT hH h; exact wp_exit ⟨I, T, H, .exit id, rfl, Ext.refl I w, hH, hT, h⟩
 | goto l => intro hl I w T a H k r hT hH h; exact wp_goto ⟨I, T, H, .goto l, rfl, Ext.refl I w, hH, hT, h⟩
 | ret => intro hl I w T a H k r hT hH h; exact wp_ret ⟨I, T, H, .ret, trivial, Ext.refl I w, hH, hT, h⟩
 | refuse s => intro hl I w T a H k r hT hH h; cases h
 | rangeFunc _ _ _ _ _ _ => intro hl I w T a H k r hT hH h; cases h
 | region id ops draw =>
  intro hl I w T a H k r hT hH h
  simp only [dW] at h
  cases draw with
  | true =>
   simp only [if_true] at h
   split at h
   ·rename_i anc ha
    split at h
    ·rename_i hf
     rw [aj] at hf
     exact HX hcall hg.specs hg.pures hg.tabs hg.qs hg.qr hf.1 ha hf.2 hT hH h fun I' w' T' H' a' he hH' hT' h' => ⟨I', T', H', .norm, trivial, he, hH', hT', h'⟩
    ·cases h
   ·cases h
  | false =>
   simp only [aL, aC] at h
   exact wp_region_list (CH hcall hT hH h fun I' w' T' H' a' he hH' hT' h' => ⟨I', T', H', .norm, trivial, he, hH', hT', h'⟩)
 | seq x y ihx ihy =>
  intro hl I w T a H k r hT hH h
  simp only [dW] at h
  have key : x.wp cx.P (PostC I w (fun e T H => JV (dW cx call f d y) k e T H) r) a w := by
   split at h
   ·rename_i L hL
    unfold Hq at hL
    split at hL
    ·rename_i L' hL'
     split at hL
     ·simp only [ab] at hL
      subst hL
      exact hl _ _ hL' x (aD ..) hT hH h
     ·cases hL
    ·cases hL
   ·exact ihx (fun id L hL c' hc => hl id L hL c' (az _ (aY _ hc))) hT hH h
  refine wp_seq (Code.wp_mono ?_ key)
  rintro e a2 w2 ⟨I2, T2, H2, x', hx, he2, hH2, hT2, h2⟩
  cases e <;> cases x' <;> first | exact hx.elim | skip
  ·exact Code.wp_mono (fun e a w hp => PostC.ext he2 hp) (ihy (fun id L hL c' hc => hl id L hL c' (az _ (bG _ hc))) hT2 hH2 h2)
  ·exact ⟨I2, T2, H2, _, hx, he2, hH2, hT2, h2⟩
  ·exact ⟨I2, T2, H2, _, hx, he2, hH2, hT2, h2⟩
  ·exact ⟨I2, T2, H2, _, hx, he2, hH2, hT2, h2⟩
 | cond c x y ihx ihy =>
  intro hl I w T a H k r hT hH h
  simp only [dW] at h
  split at h
  ·rename_i t ht
   have hv := dP hT c
   rw [ht] at hv
   refine wp_cond hv.sc_eq ?_
   cases t with
   | true =>
    simp only [if_true, CX ht] at h ⊢
    exact ihx (fun id L hL c' hc => hl id L hL c' (aY _ hc)) hT hH h
   | false =>
    simp only [aL, aC, CX ht] at h ⊢
    exact ihy (fun id L hL c' hc => hl id L hL c' (bG _ hc)) hT hH h
  ·cases h
 | block id c ih =>
  intro hl I w T a H k r hT hH h
  simp only [dW] at h
  refine wp_block (Code.wp_mono ?_ (ih hl hT hH h))
  rintro e a2 w2 ⟨I2, T2, H2, x', hx, he2, hH2, hT2, h2⟩
  cases e <;> cases x' <;> first | exact hx.elim | skip
  ·exact ⟨I2, T2, H2, .norm, trivial, he2, hH2, hT2, h2⟩
  ·rename_i i j
   have : j = i := hx
   subst this
   simp only [Exit.inBlock] at *
   split at h2
   ·rename_i hj
    rw [if_pos hj]
    exact ⟨I2, T2, H2, .norm, trivial, he2, hH2, hT2, h2⟩
   ·rename_i hj
    rw [if_neg hj]
    exact ⟨I2, T2, H2, .exit j, rfl, he2, hH2, hT2, h2⟩
  ·exact ⟨I2, T2, H2, _, hx, he2, hH2, hT2, h2⟩
  ·exact ⟨I2, T2, H2, _, hx, he2, hH2, hT2, h2⟩
 | loop c ih =>
  intro hl I w T a H k r hT hH h
  simp only [dW] at h
  split at h
  ·rename_i L hL
   split at h
   ·exact hl _ L hL _ (aD ..) hT hH h
   split at h
   ·cases h
   ·exact AI (fun hT hH h => ih (fun id L hL c' hc => hl id L hL c' (az _ hc)) hT hH h) hT hH h
  ·exact AI (fun hT hH h => ih (fun id L hL c' hc => hl id L hL c' (az _ hc)) hT hH h) hT hH h
 | scope c ih =>
  intro hl I w T a H k r hT hH h
  simp only [dW] at h
  refine wp_scope_straight (Code.wp_mono ?_ (ih hl hT hH h))
  rintro e a2 w2 ⟨I2, T2, H2, x', hx, he2, hH2, hT2, h2⟩
  cases e <;> cases x' <;> first | exact hx.elim | skip
  ·exact ⟨I2, T2, H2, _, hx, he2, hH2, hT2, h2⟩
  ·exact ⟨I2, T2, H2, _, hx, he2, hH2, hT2, h2⟩
  ·cases h2
  ·exact ⟨I2, T2, H2, _, hx, he2, hH2, hT2, h2⟩
end
section
variable {α : Type} {P : Program} {I : In} {w : World} {T : List DV} {a : Act} {H : Heap}
def tO (tmps : Array Value) : ResultVar → Sem Value
 | .tmp t => pure (tmps.getD t undef)
 | .cell x t => do loadVar t (← asAddr (tmps.getD x undef))
theorem zT (hT : TR I w T a) (hH : HR I w H) : ∀ {l : List ResultVar} {vs : List DV}, pF P T H l = some vs → ∃ zs : List Value, (l.mapM (tO a.tmps)).run P w = .ok zs w ∧ LR I w vs zs
 | [], vs, h => by
  simp only [pF, ab] at h
  subst h
  exact ⟨[], rfl, .nil⟩
 | .tmp t :: r, vs, h => by
  simp only [pF] at h
  split at h
  ·rename_i l hl
   simp only [ab] at h
   subst h
   obtain ⟨zs, h1, h2⟩ := zT hT hH hl
   refine ⟨a.tmps.getD t undef :: zs, ?_, .cons _ _ _ _ (hT.val t) h2⟩
   simp only [List.mapM_cons, Sem.run_bind, tO]
   rw [show (pure (a.tmps.getD t undef) : Sem Value).run P w = .ok (a.tmps.getD t undef) w from rfl]
   show ((List.mapM (tO a.tmps) r).run P w).andThen _ = _
   rw [h1]
   rfl
  ·cases h
 | .cell x t :: r, vs, h => by
  simp only [pF] at h
  split at h
  ·rename_i v l hv hl
   simp only [ab] at h
   subst h
   obtain ⟨zs, h1, h2⟩ := zT hT hH hl
   obtain ⟨ad, u, g1, g2, g3⟩ := E7 (hT.val x) hH hv
   refine ⟨u :: zs, ?_, .cons _ _ _ _ g3 h2⟩
   simp only [List.mapM_cons, Sem.run_bind, tO]
   rw [g1]
   show (((loadVar t ad).run P w).andThen fun a_1 w' => ((List.mapM (tO a.tmps) r).run P w').andThen fun a w' => (pure (a_1 :: a) : Sem (List Value)).run P w') = _
   rw [g2]
   show ((List.mapM (tO a.tmps) r).run P w).andThen _ = _
   rw [h1]
   rfl
  ·cases h
theorem Gr {fn : Func} {vs : List DV} (hT : TR I w T a) (hH : HR I w H) (h : pF P T H fn.results.toList = some vs) : ∃ z, (results fn a.tmps).run P w = .ok z w ∧ VR I w (gV vs) z := by
 obtain ⟨zs, h1, h2⟩ := zT (P := P) hT hH h
 rw [show results fn a.tmps = (do let vs ← fn.results.mapM (tO a.tmps); pure (if h : vs.size = 1 then vs[0] else .tuple vs)) from rfl, Array.mapM_eq_mapM_toList]
 have h3 : ((List.toArray <$> (fn.results.toList.mapM (tO a.tmps))) : Sem (Array Value)).run P w = .ok zs.toArray w := by
  rw [map_eq_pure_bind, Sem.run_bind, h1]
  rfl
 refine ⟨_, by rw [Sem.run_bind, h3]; rfl, ?_⟩
 cases h2 with
 | nil => exact .tup [] #[] .nil
 | cons d r u us hd hr => cases hr with
  | nil => exact hd
  | cons d' r' u' us' hd' hr' => exact .tup _ _ (.cons _ _ _ _ hd (.cons _ _ _ _ hd' hr'))
theorem yO : ∀ {l : List FS} {A : List DV} {b : Nat} {k : DV → Heap → Option (List Nat) → Option α} {q : Option α}, ph l A H b k = some q → ∃ S X m, S ∈ l ∧ S.tin.pr ⟨[], []⟩ A H = some (X, m) ∧ q = (S.fn X).bind fun y => if S.tout.free (mY (dv m.u H) b m) ((dv m.u H).away m) = true then k (gV (S.tout.T (mY (dv m.u H) b m) (S.out y))) (S.tout.H (mY (dv m.u H) b m) (S.out y) ((dv m.u H).away m)) (some m.u) else none
 | [], A, b, k, q, h => by cases h
 | S :: l, A, b, k, q, h => by
  simp only [ph] at h
  split at h
  ·rename_i X m hX
   simp only [ab] at h
   exact ⟨S, X, m, by simp, hX, h.symm⟩
  ·obtain ⟨S', X, m, h1, h2⟩ := yO h
   exact ⟨S', X, m, az _ h1, h2⟩
theorem LR.length : ∀ {ds : List DV} {vs : List Value}, LR I w ds vs → ds.length = vs.length
 | _, _, .nil => rfl
 | _, _, .cons d r u vs h hr => by simp [LR.length hr]
theorem LR.getD : ∀ {ds : List DV} {vs : List Value} (i : Nat), LR I w ds vs → VR I w (ds.getD i .undef) (vs.getD i undef)
 | _, _, _, .nil => .undef _
 | _, _, 0, .cons d r u vs h hr => h
 | _, _, i + 1, .cons d r u vs h hr => by simpa using LR.getD i hr
theorem Kg {A : List DV} {args : List Value} {n : Nat} (hl : A.length ≤ args.length) (hA : ∀ i, VR I w (A.getD i .undef) (args.getD i undef)) : TR I w (A ++ List.replicate (n - A.length) .undef) { tmps := args.toArray ++ Array.replicate (n - args.toArray.size) undef, defers := [] } := by
 refine ⟨by simp; omega, fun i => ?_, rfl⟩
 rcases am i A.length with h | h
 ·have := hA i
  simp only [aq, b9] at this ⊢
  rw [aO h, Array.getElem?_append_left (by simp; omega)]
  simpa using this
 ·have : (A ++ List.replicate (n - A.length) DV.undef).getD i .undef = .undef := by
   rw [aq, aW h, bK]
   split <;> rfl
  rw [this]
  exact .undef _
variable {cx : Cx} {call : gH α}
theorem oC (hg : Good cx) (hcall : rj cx.P call) {d : Nat} {f : FuncId} {A : List DV} {args : List Value} {k : DV → Heap → Option α} {r : α} (hH : HR I w H) (hl : A.length ≤ args.length) (hA : ∀ i, VR I w (A.getD i .undef) (args.getD i undef)) (h : jc cx call f d A H k = some r) :
  Calls cx.P f args.toArray w (xd fun z w' => ∃ I' v H', k v H' = some r ∧ Ext I w I' w' ∧ HR I' w' H' ∧ VR I' w' v z) := by
 unfold jc at h
 split at h
 ·rename_i fn hf
  split at h
  ·rename_i c hb
   refine calls_of_wp hf hb (Code.wp_mono ?_ (tN hg hcall c (fun id L hL c' hc => hg.loops f id L hL fn c c' hf hb hc) (Kg (n := fn.ntmps) hl hA) hH h))
   rintro e a' w' ⟨I', T', H', x, hx, he, hH', hT', h'⟩
   have fin : (match pF cx.P T' H' fn.results.toList with | some vs => k (gV vs) H' | none => none) = some r → a'.defers = [] ∧ ∃ v, (results fn a'.tmps).run cx.P w' = .ok v w' ∧ ∃ I' v' H', k v' H' = some r ∧ Ext I w I' w' ∧ HR I' w' H' ∧ VR I' w' v' v := by
    intro h'
    split at h'
    ·rename_i vs hvs
     obtain ⟨z, g1, g2⟩ := Gr (P := cx.P) hT' hH' hvs
     exact ⟨hT'.df, z, g1, I', _, H', h', he, hH', g2⟩
    ·cases h'
   cases e <;> cases x <;> first | exact hx.elim | skip
   ·exact fin h'
   ·cases h'
   ·cases h'
   ·exact fin h'
  ·cases h
 ·cases h
theorem iE (hg : Good cx) (n : Nat) : ∀ d : Nat, rj cx.P (fe (α := α) cx n d) := by
 induction n with
 | zero =>
  intro d I w H A args f k r hH hA h
  cases h
 | succ n ih =>
  intro d I w H A args f k r hH hA h
  simp only [fe] at h
  split at h
  ·rename_i hent
   refine ⟨kN hent, ?_⟩
   split at h
   ·rename_i v hv
    obtain ⟨_, t, ht, hl, hp, rfl⟩ := wB hv
    refine Calls.mono (hg.tabs f t ht hH hA hl hp) ?_
    rintro e w' he
    cases e with
    | returned z =>
     obtain ⟨I', m1, m2, m3, m4⟩ := he
     exact ⟨I', _, H, _, h, m1, m3, m4, fun l hl n sz v _ hn => m2.row n sz v hn⟩
    | _ => exact he.elim
   split at h
   ·rename_i q hq
    obtain ⟨S, X, m, h1, h2, rfl⟩ := yO hq
    exact hg.specs f S h1 hH hA h2 (fun i n hin => by simp only [mY, yK (tH (HK h2)) hin]) h
   ·split at h
    ·refine Calls.mono (oC hg (ih (d + 1)) hH (ba hA.length) (fun i => hA.getD i) h) ?_
     rintro e w' he
     cases e with
     | returned z =>
      obtain ⟨I', v, H', k1, k2, k3, k4⟩ := he
      exact ⟨I', v, H', none, k1, k2, k3, k4, fun l hl => by cases hl⟩
     | _ => exact he.elim
    ·cases h
  ·cases h
end
section
variable {I I2 : In} {w : World} {H : Heap} {ρ : Nam}
theorem Kh {s : Sh} {d : DV} {v : Value} {x : s.T} (hv : VR I w d v) (h : ym s d = some x) (hR : I2.R = I.R) : VR I2 w (s.val x) v := by
 have K2 : ∀ {cs : List Value}, s.K I.R w x cs → s.K I2.R w x cs := fun h => by rw [hR]; exact h
 unfold ym at h
 split at h
 ·rename_i hm
  split at h
  ·rename_i cs
   split at h
   ·rename_i y hy
    simp only [ab] at h
    subst h
    cases hv with | agg _ cs' hc =>
    obtain ⟨c1, c2, e, h1, h2⟩ := Sh.dec_ok hy hc
    cases h2
    rw [aG] at e
    subst e
    unfold Sh.val
    rw [if_pos hm]
    exact .agg _ _ (Sh.enc_ok (K2 h1))
   ·cases h
  ·cases h
 ·rename_i hm
  split at h
  ·rename_i y hy
   simp only [ab] at h
   subst h
   have h1c : CR I w [d] [v] := by
    cases hv with
    | sc _ h1 => exact .one _ _ _ _ (.sc _ h1) h1 .nil
    | vs s' xs _ hk => exact .one _ _ _ _ (.vs s' xs _ hk) (Sh.K_one hk v (by simp)) .nil
    | fp t n _ hk => exact .one _ _ _ _ (.fp t n _ hk) (Sh.K_one hk v (by simp)) .nil
    | _ => cases s <;> first | (exact absurd rfl hm) | (simp [Sh.dec] at hy)
   obtain ⟨c1, c2, e, h1, h2⟩ := Sh.dec_ok hy h1c
   cases h2
   rw [aG] at e
   subst e
   have hC := Sh.enc_ok (K2 h1)
   unfold Sh.val
   rw [if_neg hm]
   cases s with
   | int k => cases hC with | one d r u cs h hu hr => exact h
   | bool => cases hC with | one d r u cs h hu hr => exact h
   | str => cases hC with | one d r u cs h hu hr => exact h
   | sl e => cases hC with | one d r u cs h hu hr => exact h
   | fp t => cases hC with | one d r u cs h hu hr => exact h
   | pair a b => exact absurd rfl hm
   | arr n e => exact absurd rfl hm
  ·cases h
theorem CY {E : TypeId} {s : Sh} {d : DV} {v : Value} {xs : List s.T} {u : List Nat} (hH : HR I w H) (hv : VR I w d v) (h : ja H E s d = some (xs, u)) :
  ∃ cs, w.ownsRow 0 E s.sz v xs.length cs ∧ (Sh.arr xs.length s).K I.R w xs cs ∧ (∃ A l c, v = .slice A l c) ∧ ((u = [] ∧ v.ownBlock = none) ∨ ∃ n sz v0, u = [n] ∧ I.ι n = some (.row sz v0) ∧ v.ownBlock = v0.ownBlock) := by
 unfold ja at h
 split at h
 ·rename_i n c
  obtain rfl := hv.sc_eq
  split at h
  ·rename_i hn
   split at h
   ·rename_i hc
    subst hn hc
    simp only [ab, ah] at h
    obtain ⟨rfl, rfl⟩ := h
    exact ⟨[], ⟨by simp, .inl ⟨rfl, rfl⟩⟩, AC s, ⟨_, _, _, rfl⟩, .inl ⟨rfl, rfl⟩⟩
   ·cases h
  ·cases h
 ·rename_i n
  cases hv with | rw _ sz v hi hs =>
  split at h
  ·rename_i E' s' xs' hrow
   split at h
   ·rename_i hE
    subst hE
    split at h
    ·rename_i hs' hq
     cases hs'
     simp only [ab, ah] at h
     obtain ⟨rfl, rfl⟩ := h
     obtain ⟨v0, cs, m1, m2, m3⟩ := hH.row n E' s xs' hrow
     rw [hi] at m1
     simp only [ab, Ent.row.injEq] at m1
     obtain ⟨rfl, rfl⟩ := m1
     exact ⟨cs, m2, m3, hs, .inr ⟨n, _, _, rfl, hi, rfl⟩⟩
    ·cases h
   ·cases h
  ·cases h
 ·rename_i n o l
  cases hv with | sl _ _ _ sz A A' len cap cap' hi hl h0' h1' hc' =>
  split at h
  ·rename_i E' s' xs' hrow
   split at h
   ·rename_i ho
    subst ho
    split at h
    ·rename_i hE
     subst hE
     split at h
     ·rename_i hs' hq
      cases hs'
      simp only [ab, ah] at h
      obtain ⟨rfl, rfl⟩ := h
      obtain ⟨rfl, rfl⟩ := h0' rfl
      obtain ⟨v0, cs, m1, m2, m3⟩ := hH.row n E' s xs' hrow
      rw [hi] at m1
      simp only [ab, Ent.row.injEq] at m1
      obtain ⟨rfl, rfl⟩ := m1
      obtain ⟨_, rfl, _, _⟩ := jN hH hrow hi
      have hl' : l ≤ xs'.length := by omega
      have hlen : (xs'.take l).length = l := by simp; omega
      refine ⟨cs.take (l * s.sz), ?_, rh m3 hl', ⟨_, _, _, rfl⟩, .inr ⟨n, _, _, rfl, hi, ?_⟩⟩
      ·rw [hlen]
       rcases m2.2 with ⟨e, e0⟩ | ⟨g, c', cur, e, _⟩
       ·simp only [Value.slice.injEq] at e
        obtain ⟨rfl, _, rfl⟩ := e
        have : l = 0 := by omega
        subst this
        exact ⟨by simp, .inl ⟨rfl, rfl⟩⟩
       ·simp only [Value.slice.injEq] at e
        obtain ⟨rfl, _, rfl⟩ := e
        exact tC m2 hl'
      ·cases A' <;> rfl
     ·cases h
    ·cases h
   ·cases h
  ·cases h
 ·cases h
abbrev RE := Nat × Ent × Option Nat
def rx (I : In) (q : RE) : Prop := (∃ sz v, q.2.1 = .row sz v) ∧ match q.2.2 with
 | none => ∀ b, ¬ q.2.1.has b
 | some n => ∃ e, I.ι n = some e ∧ (∃ sz v, e = .row sz v) ∧ ∀ b, q.2.1.has b ↔ e.has b
structure Cov (I I2 : In) (ρ : Nam) (m : Met) (es : List RE) : Prop where
 R : I2.R = I.R
 o : ∀ i n, (i, n) ∈ m.σ → I2.ι (ρ.o i) = I.ι n
 r : ∀ q ∈ es, I2.ι (ρ.r q.1) = some q.2.1
theorem Met.get_mem {m : Met} {i n : Nat} (h : m.get i = some n) : (i, n) ∈ m.σ := by
 unfold Met.get at h
 cases hf : m.σ.find? (fun e => e.1 == i) with
 | none => rw [hf] at h; cases h
 | some e =>
  rw [hf] at h
  simp only [bF, ab] at h
  have h1 := ci hf
  have h2 := cj hf
  simp only [ai] at h1
  rw [← h1, ← h]
  exact h2
structure Grow (m m' : Met) (es : List RE) : Prop where
 σ : ∀ e ∈ m.σ, e ∈ m'.σ
 u : m'.u = (es.filterMap (·.2.2)).reverse ++ m.u
theorem Grow.refl (m : Met) : Grow m m [] := ⟨fun _ h => h, rfl⟩
theorem Grow.trans {m m1 m2 : Met} {es es' : List RE} (h : Grow m m1 es) (k : Grow m1 m2 es') : Grow m m2 (es ++ es') :=
 ⟨fun e he => k.σ e (h.σ e he), by rw [k.u, h.u, List.filterMap_append, List.reverse_append, aI]⟩
theorem Cov.left {m m' : Met} {es es' : List RE} (h : Cov I I2 ρ m' (es ++ es')) (hσ : ∀ e ∈ m.σ, e ∈ m'.σ) : Cov I I2 ρ m es := ⟨h.R, fun i n hn => h.o i n (hσ _ hn), fun q hq => h.r q (aY _ hq)⟩
theorem Cov.right {m : Met} {es es' : List RE} (h : Cov I I2 ρ m (es ++ es')) : Cov I I2 ρ m es' := ⟨h.R, h.o, fun q hq => h.r q (bG _ hq)⟩
theorem qd {n i : Nat} {v : Value} (hv : VR I w (.ptr n 0 []) v) (h : I2.ι (ρ.o i) = I.ι n) : VR I2 w (.ptr (ρ.o i) 0 []) v := by
 cases hv with | ptr _ _ _ b h1 h2 => exact .ptr _ _ _ b (h.trans h1) h2
theorem HY {n i o : Nat} {v : Value} (hv : VR I w (.ptr n o []) v) (h : I2.ι (ρ.o i) = I.ι n) : VR I2 w (.ptr (ρ.o i) o []) v := by
 cases hv with | ptr _ _ _ b h1 h2 => exact .ptr _ _ _ b (h.trans h1) h2
theorem yP : ∀ {is : List Nat} {l : List DV} {vs : List Value} {m m' : Met}, pZ is l m = some m' → LR I w l vs → Grow m m' [] ∧ ∀ I2, Cov I I2 ρ m' [] → LR I2 w (is.map fun i => .ptr (ρ.o i) 0 []) vs
 | [], l, vs, m, m', h, hl => by
  simp only [pZ] at h
  split at h
  ·rename_i he
   simp only [ab] at h
   subst h
   cases l with
   | nil => cases hl with | nil => exact ⟨Grow.refl m, fun I2 _ => .nil⟩
   | cons a b => simp at he
  ·cases h
 | i :: r, l, vs, m, m', h, hl => by
  simp only [pZ] at h
  split at h
  ·rename_i n l'
   cases hl with | cons _ _ u us hd hr =>
   split at h
   ·rename_i n' hn
    split at h
    ·rename_i e
     subst e
     obtain ⟨h1, h2⟩ := yP h hr
     exact ⟨h1, fun I2 hc => .cons _ _ _ _ (qd hd (hc.o i n (h1.σ _ (Met.get_mem hn)))) (h2 I2 hc)⟩
    ·cases h
   ·obtain ⟨h1, h2⟩ := yP h hr
    exact ⟨⟨fun e he => h1.σ e (az _ he), h1.u⟩, fun I2 hc => .cons _ _ _ _ (qd hd (hc.o i n (h1.σ _ (aD ..)))) (h2 I2 hc)⟩
  ·cases h
def LaidR (I2 : In) (w : World) (f : Heap → Heap) (ns : List Nat) : Prop := ∀ H0 n, (∀ b, f H0 n = some b → BR I2 w n b ∨ H0 n = some b) ∧ (f H0 n = none → H0 n = none ∧ n ∉ ns)
theorem LaidR.id : LaidR I2 w (fun H => H) [] := fun H0 n => ⟨fun b h => .inr h, fun h => ⟨h, by simp⟩⟩
theorem LaidR.set {n0 : Nat} {b0 : Blk} {f : Heap → Heap} {ns : List Nat} (hb : BR I2 w n0 b0) (hf : LaidR I2 w f ns) : LaidR I2 w (fun H => f (H.set n0 (some b0))) (n0 :: ns) := by
 intro H0 n
 obtain ⟨h1, h2⟩ := hf (H0.set n0 (some b0)) n
 refine ⟨fun b h => ?_, fun h => ?_⟩
 ·rcases h1 b h with h3 | h3
  ·exact .inl h3
  ·by_cases hn : n = n0
   ·subst hn
    rw [Heap.set_same] at h3
    simp only [ab] at h3
    subst h3
    exact .inl hb
   ·rw [dS hn] at h3
    exact .inr h3
 ·obtain ⟨h3, h4⟩ := h2 h
  by_cases hn : n = n0
  ·subst hn
   rw [Heap.set_same] at h3
   cases h3
  ·rw [dS hn] at h3
   exact ⟨h3, by simp [hn, h4]⟩
end
section
variable {I : In} {w : World} {H : Heap} {ρ : Nam}
theorem Fh {I2 : In} {E : TypeId} {s : Sh} {d : DV} {v : Value} {xs : List s.T} {u : List Nat} {m : Met} (hH : HR I w H) (hv : VR I w d v) (h : ja H E s d = some (xs, u)) (c : Nat) : ∃ q : RE, q.1 = c ∧ Grow m ⟨m.σ, u ++ m.u⟩ [q] ∧ rx I q ∧ ∀ I2, I2.R = I.R → I2.ι (ρ.r c) = some q.2.1 → VR I2 w (.rw (ρ.r c)) v ∧ BR I2 w (ρ.r c) (.row E s xs) ∧ v.oneCell' = true := by
 obtain ⟨cs, h1, h2, ⟨A, l, cp, rfl⟩, h4⟩ := CY hH hv h
 have fin : ∀ I2 : In, I2.R = I.R → I2.ι (ρ.r c) = some (.row s.sz (.slice A l cp)) → VR I2 w (.rw (ρ.r c)) (.slice A l cp) ∧ BR I2 w (ρ.r c) (.row E s xs) ∧ (Value.slice A l cp).oneCell' = true := by
  intro I2 hR hr
  exact ⟨.rw _ _ _ hr ⟨_, _, _, rfl⟩, ⟨_, cs, hr, h1, by rw [hR]; exact h2⟩, rfl⟩
 rcases h4 with ⟨rfl, h5⟩ | ⟨n, sz, v0, rfl, h5, h6⟩
 ·exact ⟨(c, .row s.sz (.slice A l cp), none), rfl, ⟨fun _ h => h, rfl⟩, ⟨⟨_, _, rfl⟩, fun b hb => by have hb : (Value.slice A l cp).ownBlock = some b := hb; rw [h5] at hb; cases hb⟩, fin⟩
 ·exact ⟨(c, .row s.sz (.slice A l cp), some n), rfl, ⟨fun _ h => h, rfl⟩, ⟨⟨_, _, rfl⟩, _, h5, ⟨_, _, rfl⟩, fun b => by show _ = _ ↔ _ = _; rw [h6]⟩, fin⟩
theorem yQ {es es' : List RE} (h : ∀ q ∈ es, rx I q) (h' : ∀ q ∈ es', rx I q) : ∀ q ∈ es ++ es', rx I q := fun q hq => (aA.1 hq).elim (h q) (h' q)
theorem jw (hH : HR I w H) : ∀ {ks : List IK} {c : Nat} {T : List DV} {vals : Nat → Value} {m : Met} {x : eM ks} {m' : Met}, dZ H ks T m = some (x, m') → (∀ i, VR I w (T.getD i .undef) (vals i)) →
  ∃ es, Grow m m' es ∧ (∀ q ∈ es, rx I q) ∧ es.map (fun q => ρ.r q.1) = de ρ c ks ∧ ks.length ≤ T.length ∧ ∀ I2, Cov I I2 ρ m' es → (∀ i, VR I2 w ((ip ρ c ks x).getD i .undef) (vals i)) ∧ LaidR I2 w (el ρ c ks x) (de ρ c ks)
 | [], c, T, vals, m, x, m', h, hV => by
  cases T with
  | cons d r => simp only [dZ] at h; cases h
  | nil =>
  simp only [dZ, ab, ah] at h
  obtain ⟨_, rfl⟩ := h
  exact ⟨[], Grow.refl m, fun q h => by simp at h, rfl, ay _, fun I2 hc => ⟨fun i => by simp only [ip]; exact .undef _, fun H0 n => by simp only [el]; exact LaidR.id H0 n⟩⟩
 | .any :: r, c, T, vals, m, x, m', h, hV => by
  simp only [dZ] at h
  split at h
  ·rename_i d T
   obtain ⟨es, h1, h2, h3, h4, h5⟩ := jw (c := c + 1) (vals := fun i => vals (i + 1)) hH h (fun i => hV (i + 1))
   refine ⟨es, h1, h2, h3, bQ h4, fun I2 hc => ?_⟩
   obtain ⟨g1, g2⟩ := h5 I2 hc
   exact ⟨fun i => by cases i with
    | zero => exact .undef _
    | succ i => exact g1 i, fun H0 n => by simp only [el, de]; exact g2 H0 n⟩
  ·cases h
 | .val s :: r, c, T, vals, m, x, m', h, hV => by
  simp only [dZ] at h
  split at h
  ·rename_i d T
   split at h
   ·rename_i y hy
    split at h
    ·rename_i z m1 hz
     simp only [ab, ah] at h
     obtain ⟨rfl, rfl⟩ := h
     obtain ⟨es, h1, h2, h3, h4, h5⟩ := jw (c := c + 1) (vals := fun i => vals (i + 1)) hH hz (fun i => hV (i + 1))
     refine ⟨es, h1, h2, h3, bQ h4, fun I2 hc => ?_⟩
     obtain ⟨g1, g2⟩ := h5 I2 hc
     exact ⟨fun i => by cases i with
      | zero => exact Kh (hV 0) hy hc.R
      | succ i => exact g1 i, fun H0 n => by simp only [el, de]; exact g2 H0 n⟩
    ·cases h
   ·cases h
  ·cases h
 | .agf s F :: r, c, T, vals, m, x, m', h, hV => by
  simp only [dZ] at h
  split at h
  ·rename_i ds T
   split at h
   ·rename_i y F' hy
    split at h
    ·rename_i hF
     subst hF
     split at h
     ·rename_i z m1 hz
      simp only [ab, ah] at h
      obtain ⟨rfl, rfl⟩ := h
      obtain ⟨es, h1, h2, h3, h4, h5⟩ := jw (c := c + 1) (vals := fun i => vals (i + 1)) hH hz (fun i => hV (i + 1))
      refine ⟨es, h1, h2, h3, bQ h4, fun I2 hc => ?_⟩
      obtain ⟨g1, g2⟩ := h5 I2 hc
      refine ⟨fun i => ?_, fun H0 n => by simp only [el, de]; exact g2 H0 n⟩
      cases i with
      | zero =>
       have h0 := hV 0
       simp only [List.getD_cons_zero] at h0
       generalize vals 0 = v0 at h0
       cases h0 with | agg _ cs hcs =>
       obtain ⟨c1, c2, e, k1, k2⟩ := Sh.dec_ok hy hcs
       show VR I2 w (.agg (s.enc y ++ [.fn (.func F') [] []])) _
       refine .agg _ _ ?_
       rw [e]
       refine CR.append (Sh.enc_ok (by rw [hc.R]; exact k1)) ?_
       cases k2 with | one _ _ u us hd hu hr =>
       cases hr
       obtain ⟨x', y', rfl, e1, e2⟩ := hd.fn_case
       refine .one _ _ _ _ (.fn _ _ _ x' y' ?_ ?_) hu .nil
       ·generalize x'.toList = l at e1 ⊢; cases e1; exact .nil
       ·generalize y'.toList = l at e2 ⊢; cases e2; exact .nil
      | succ i => exact g1 i
     ·cases h
    ·cases h
   ·cases h
  ·cases h
 | .row E s :: r, c, T, vals, m, x, m', h, hV => by
  simp only [dZ] at h
  split at h
  ·rename_i d T
   split at h
   ·rename_i xs u hy
    split at h
    ·rename_i z m1 hz
     simp only [ab, ah] at h
     obtain ⟨rfl, rfl⟩ := h
     obtain ⟨q, k1, k2, k3, k4⟩ := Fh (ρ := ρ) (I2 := I) (m := m) hH (hV 0) hy c
     obtain ⟨es, h1, h2, h3, h4, h5⟩ := jw (c := c + 1) (vals := fun i => vals (i + 1)) hH hz (fun i => hV (i + 1))
     refine ⟨[q] ++ es, k2.trans h1, yQ (fun p hp => by simp at hp; subst hp; exact k3) h2, by simp [de, k1, h3], bQ h4, fun I2 hc => ?_⟩
     obtain ⟨g1, g2⟩ := h5 I2 hc.right
     obtain ⟨f1, f2, f3⟩ := k4 I2 hc.R (by rw [← k1]; exact hc.r q (by simp))
     exact ⟨fun i => by cases i with
      | zero => exact f1
      | succ i => exact g1 i, fun H0 n => by simp only [el, de]; exact LaidR.set f2 g2 H0 n⟩
    ·cases h
   ·cases h
  ·cases h
 | .obj i :: r, c, T, vals, m, x, m', h, hV => by
  simp only [dZ] at h
  split at h
  ·rename_i n T
   split at h
   ·rename_i n' hn
    split at h
    ·rename_i e
     subst e
     obtain ⟨es, h1, h2, h3, h4, h5⟩ := jw (c := c + 1) (vals := fun i => vals (i + 1)) hH h (fun i => hV (i + 1))
     refine ⟨es, h1, h2, h3, bQ h4, fun I2 hc => ?_⟩
     obtain ⟨g1, g2⟩ := h5 I2 hc
     exact ⟨fun j => by cases j with
      | zero => exact qd (hV 0) (hc.o i n (h1.σ _ (Met.get_mem hn)))
      | succ j => exact g1 j, fun H0 n => by simp only [el, de]; exact g2 H0 n⟩
    ·cases h
   ·obtain ⟨es, h1, h2, h3, h4, h5⟩ := jw (c := c + 1) (vals := fun i => vals (i + 1)) hH h (fun i => hV (i + 1))
    refine ⟨es, ⟨fun e he => h1.σ e (az _ he), h1.u⟩, h2, h3, bQ h4, fun I2 hc => ?_⟩
    obtain ⟨g1, g2⟩ := h5 I2 hc
    exact ⟨fun j => by cases j with
     | zero => exact qd (hV 0) (hc.o i n (h1.σ _ (aD ..)))
     | succ j => exact g1 j, fun H0 n => by simp only [el, de]; exact g2 H0 n⟩
  ·cases h
 | .inn i o :: r, c, T, vals, m, x, m', h, hV => by
  simp only [dZ] at h
  split at h
  ·split at h
   ·rename_i n o' T ho
    subst ho
    split at h
    ·rename_i n' hn
     split at h
     ·rename_i e
      subst e
      obtain ⟨es, h1, h2, h3, h4, h5⟩ := jw (c := c + 1) (vals := fun i => vals (i + 1)) hH h (fun i => hV (i + 1))
      refine ⟨es, h1, h2, h3, bQ h4, fun I2 hc => ?_⟩
      obtain ⟨g1, g2⟩ := h5 I2 hc
      exact ⟨fun j => by cases j with
       | zero => exact HY (hV 0) (hc.o i n (h1.σ _ (Met.get_mem hn)))
       | succ j => exact g1 j, fun H0 n => by simp only [el, de]; exact g2 H0 n⟩
     ·cases h
    ·obtain ⟨es, h1, h2, h3, h4, h5⟩ := jw (c := c + 1) (vals := fun i => vals (i + 1)) hH h (fun i => hV (i + 1))
     refine ⟨es, ⟨fun e he => h1.σ e (az _ he), h1.u⟩, h2, h3, bQ h4, fun I2 hc => ?_⟩
     obtain ⟨g1, g2⟩ := h5 I2 hc
     exact ⟨fun j => by cases j with
      | zero => exact HY (hV 0) (hc.o i n (h1.σ _ (aD ..)))
      | succ j => exact g1 j, fun H0 n => by simp only [el, de]; exact g2 H0 n⟩
   ·cases h
  ·cases h
 | .clo F is :: r, c, T, vals, m, x, m', h, hV => by
  simp only [dZ] at h
  split at h
  ·rename_i F' caps T
   split at h
   ·rename_i hF
    subst hF
    split at h
    ·rename_i m1 hm
     obtain ⟨x', y', e, e1, e2⟩ := (hV 0).fn_case
     obtain ⟨p1, p2⟩ := yP (ρ := ρ) hm e2
     obtain ⟨es, h1, h2, h3, h4, h5⟩ := jw (c := c + 1) (vals := fun i => vals (i + 1)) hH h (fun i => hV (i + 1))
     refine ⟨es, by simpa using p1.trans h1, h2, h3, bQ h4, fun I2 hc => ?_⟩
     obtain ⟨g1, g2⟩ := h5 I2 hc
     refine ⟨fun j => ?_, fun H0 n => by simp only [el, de]; exact g2 H0 n⟩
     cases j with
     | zero =>
      show VR I2 w (.fn (.func F') [] _) _
      rw [e]
      refine .fn _ _ _ x' y' ?_ (p2 I2 ⟨hc.R, fun i n hn => hc.o i n (h1.σ _ hn), fun q hq => by simp at hq⟩)
      generalize x'.toList = l at e1 ⊢
      cases e1
      exact .nil
     | succ j => exact g1 j
    ·cases h
   ·cases h
  ·cases h
end
section
variable {I : In} {w : World} {H : Heap} {ρ : Nam}
theorem nb (hH : HR I w H) : ∀ {ks : List IK} {c : Nat} {T : List DV} {vals : List Value} {m : Met} {x : eM ks} {m' : Met}, fJ H ks T m = some (x, m') → CR I w T vals →
  ∃ es, Grow m m' es ∧ (∀ q ∈ es, rx I q) ∧ es.map (fun q => ρ.r q.1) = de ρ c ks ∧ ∀ I2, Cov I I2 ρ m' es → CR I2 w (iq ρ c ks x) vals ∧ LaidR I2 w (el ρ c ks x) (de ρ c ks)
 | [], c, T, vals, m, x, m', h, hV => by
  simp only [fJ] at h
  split at h
  ·simp only [ab, ah] at h
   obtain ⟨_, rfl⟩ := h
   cases hV
   exact ⟨[], Grow.refl m, fun q h => by simp at h, rfl, fun I2 hc => ⟨.nil, fun H0 n => by simp only [el]; exact LaidR.id H0 n⟩⟩
  ·cases h
 | .any :: r, c, T, vals, m, x, m', h, hV => by
  simp only [fJ] at h
  split at h
  ·cases h
  ·rename_i d T hd
   cases hV with
   | one _ _ u us hv hu hr =>
    obtain ⟨es, h1, h2, h3, h5⟩ := nb (c := c + 1) hH h hr
    refine ⟨es, h1, h2, h3, fun I2 hc => ?_⟩
    obtain ⟨g1, g2⟩ := h5 I2 hc
    exact ⟨.one _ _ _ _ (.undef u) hu g1, fun H0 n => by simp only [el, de]; exact g2 H0 n⟩
   | arr s n xs _ c1 c2 hk h1 hr => exact (hd s n xs rfl).elim
  ·cases h
 | .val s :: r, c, T, vals, m, x, m', h, hV => by
  simp only [fJ] at h
  split at h
  ·rename_i y T' hy
   split at h
   ·rename_i z m1 hz
    simp only [ab, ah] at h
    obtain ⟨rfl, rfl⟩ := h
    obtain ⟨c1, c2, rfl, k1, k2⟩ := Sh.dec_ok hy hV
    obtain ⟨es, h1, h2, h3, h5⟩ := nb (c := c + 1) hH hz k2
    refine ⟨es, h1, h2, h3, fun I2 hc => ?_⟩
    obtain ⟨g1, g2⟩ := h5 I2 hc
    exact ⟨CR.append (Sh.enc_ok (by rw [hc.R]; exact k1)) g1, fun H0 n => by simp only [el, de]; exact g2 H0 n⟩
   ·cases h
  ·cases h
 | .agf s F :: r, c, T, vals, m, x, m', h, hV => by
  simp only [fJ] at h
  split at h
  ·rename_i y F' T' hy
   split at h
   ·rename_i hF
    subst hF
    split at h
    ·rename_i z m1 hz
     simp only [ab, ah] at h
     obtain ⟨rfl, rfl⟩ := h
     obtain ⟨c1, c2, rfl, k1, k2⟩ := Sh.dec_ok hy hV
     cases k2 with | one _ _ u us hd hu hr =>
     obtain ⟨x', y', rfl, e1, e2⟩ := hd.fn_case
     obtain ⟨es, h1, h2, h3, h5⟩ := nb (c := c + 1) hH hz hr
     refine ⟨es, h1, h2, h3, fun I2 hc => ?_⟩
     obtain ⟨g1, g2⟩ := h5 I2 hc
     refine ⟨?_, fun H0 n => by simp only [el, de]; exact g2 H0 n⟩
     show CR I2 w ((s.enc y ++ [.fn (.func F') [] []]) ++ iq ρ (c + 1) r z) _
     rw [aI]
     refine CR.append (Sh.enc_ok (by rw [hc.R]; exact k1)) ?_
     refine .one _ _ _ _ (.fn _ _ _ x' y' ?_ ?_) hu g1
     ·generalize x'.toList = l at e1 ⊢; cases e1; exact .nil
     ·generalize y'.toList = l at e2 ⊢; cases e2; exact .nil
    ·cases h
   ·cases h
  ·cases h
 | .row E s :: r, c, T, vals, m, x, m', h, hV => by
  simp only [fJ] at h
  split at h
  ·rename_i d T
   split at h
   ·rename_i xs u hy
    split at h
    ·rename_i z m1 hz
     simp only [ab, ah] at h
     obtain ⟨rfl, rfl⟩ := h
     cases hV with
     | one _ _ u0 us hv hu hr =>
      obtain ⟨q, k1, k2, k3, k4⟩ := Fh (ρ := ρ) (I2 := I) (m := m) hH hv hy c
      obtain ⟨es, h1, h2, h3, h5⟩ := nb (c := c + 1) hH hz hr
      refine ⟨[q] ++ es, k2.trans h1, yQ (fun p hp => by simp at hp; subst hp; exact k3) h2, by simp [de, k1, h3], fun I2 hc => ?_⟩
      obtain ⟨g1, g2⟩ := h5 I2 hc.right
      obtain ⟨f1, f2, f3⟩ := k4 I2 hc.R (by rw [← k1]; exact hc.r q (by simp))
      exact ⟨.one _ _ _ _ f1 f3 g1, fun H0 n => by simp only [el, de]; exact LaidR.set f2 g2 H0 n⟩
     | arr => simp [ja] at hy
    ·cases h
   ·cases h
  ·cases h
 | .obj i :: r, c, T, vals, m, x, m', h, hV => by
  simp only [fJ] at h
  split at h
  ·rename_i n T
   cases hV with | one _ _ u0 us hv hu hr =>
   split at h
   ·rename_i n' hn
    split at h
    ·rename_i e
     subst e
     obtain ⟨es, h1, h2, h3, h5⟩ := nb (c := c + 1) hH h hr
     refine ⟨es, h1, h2, h3, fun I2 hc => ?_⟩
     obtain ⟨g1, g2⟩ := h5 I2 hc
     exact ⟨.one _ _ _ _ (qd hv (hc.o i n (h1.σ _ (Met.get_mem hn)))) hu g1, fun H0 n => by simp only [el, de]; exact g2 H0 n⟩
    ·cases h
   ·obtain ⟨es, h1, h2, h3, h5⟩ := nb (c := c + 1) hH h hr
    refine ⟨es, ⟨fun e he => h1.σ e (az _ he), h1.u⟩, h2, h3, fun I2 hc => ?_⟩
    obtain ⟨g1, g2⟩ := h5 I2 hc
    exact ⟨.one _ _ _ _ (qd hv (hc.o i n (h1.σ _ (aD ..)))) hu g1, fun H0 n => by simp only [el, de]; exact g2 H0 n⟩
  ·cases h
 | .clo F is :: r, c, T, vals, m, x, m', h, hV => by
  simp only [fJ] at h
  split at h
  ·rename_i F' caps T
   split at h
   ·rename_i hF
    subst hF
    split at h
    ·rename_i m1 hm
     cases hV with | one _ _ u0 us hv hu hr =>
     obtain ⟨x', y', rfl, e1, e2⟩ := hv.fn_case
     obtain ⟨p1, p2⟩ := yP (ρ := ρ) hm e2
     obtain ⟨es, h1, h2, h3, h5⟩ := nb (c := c + 1) hH h hr
     refine ⟨es, by simpa using p1.trans h1, h2, h3, fun I2 hc => ?_⟩
     obtain ⟨g1, g2⟩ := h5 I2 hc
     refine ⟨.one _ _ _ _ (.fn _ _ _ x' y' ?_ (p2 I2 ⟨hc.R, fun i n hn => hc.o i n (h1.σ _ hn), fun q hq => by simp at hq⟩)) hu g1, fun H0 n => by simp only [el, de]; exact g2 H0 n⟩
     generalize x'.toList = l at e1 ⊢
     cases e1
     exact .nil
    ·cases h
   ·cases h
  ·cases h
def ry (ρ : Nam) : Nat → List (List IK) → List Nat
 | _, [] => []
 | i, _ :: r => ρ.o i :: ry ρ (i + 1) r
theorem LaidR.comp {I2 : In} {f g : Heap → Heap} {ns ns' : List Nat} (hf : LaidR I2 w f ns) (hg : LaidR I2 w g ns') : LaidR I2 w (fun H => g (f H)) (ns ++ ns') := by
 intro H0 n
 obtain ⟨g1, g2⟩ := hg (f H0) n
 obtain ⟨f1, f2⟩ := hf H0 n
 refine ⟨fun b h => (g1 b h).elim .inl (f1 b), fun h => ?_⟩
 obtain ⟨h1, h2⟩ := g2 h
 obtain ⟨h3, h4⟩ := f2 h1
 exact ⟨h3, by simp [h2, h4]⟩
theorem xh {c : Nat} {k : List IK} {x : eM k} (h : ∀ t ke, k = [.fam t ke] → False) : qT ρ c k x = .obj (iq ρ c k x) := by
 unfold qT
 split
 ·rename_i t ke x
  exact (h t ke rfl).elim
 ·rfl
theorem nS {t : TypeId} {k : List EK} {b : Option Blk} {xs : List (f9 k)} (h : vy t k b = some xs) : b = some (.fam t k xs) := by
 unfold vy at h
 split at h
 ·split at h
  ·rename_i ht
   subst ht
   split at h
   ·rename_i hk hq
    cases hk
    simp only [ab] at h
    rw [← h]
   ·cases h
  ·cases h
 ·cases h
theorem MA (hH : HR I w H) {k : List IK} {i : Nat} {m m' : Met} {x : eM k} (h : tg H i k m = some (x, m')) :
  ∃ es n e, Grow m m' es ∧ (∀ q ∈ es, rx I q) ∧ es.map (fun q => ρ.r q.1) = de ρ (1000 * (i + 1)) k ∧ (i, n) ∈ m'.σ ∧ I.ι n = some e ∧ (∀ sz v, e ≠ .row sz v) ∧
   ∀ I2, Cov I I2 ρ m' es → LaidR I2 w (fun H => el ρ (1000 * (i + 1)) k x (H.set (ρ.o i) (some (qT ρ (1000 * (i + 1)) k x)))) (ρ.o i :: de ρ (1000 * (i + 1)) k) := by
 unfold tg at h
 split at h
 ·split at h
  ·rename_i n hn
   split at h
   ·rename_i xs hx
    simp only [ab, ah] at h
    obtain ⟨rfl, rfl⟩ := h
    have hf := hH.fam _ _ _ _ (nS hx)
    obtain ⟨B, g1, g2, g3, g4, g5⟩ := id hf
    refine ⟨[], n, _, Grow.refl _, fun q hq => by simp at hq, rfl, Met.get_mem hn, g1, fun sz v h => (by cases h), fun I2 hc => ?_⟩
    have h1 : I2.ι (ρ.o i) = I.ι n := hc.o i n (Met.get_mem hn)
    have hb : BR I2 w (ρ.o i) (.fam _ _ xs) := ⟨B, h1.trans g1, by rw [hc.R]; exact g2, by rw [hc.R]; exact g3, g4, g5⟩
    exact LaidR.set hb LaidR.id
   ·cases h
  ·split at h
   ·rename_i xs hx
    simp only [ab, ah] at h
    obtain ⟨rfl, rfl⟩ := h
    have hf := hH.fam _ _ _ _ (nS hx)
    obtain ⟨B, g1, g2, g3, g4, g5⟩ := id hf
    refine ⟨[], i, _, ⟨fun e he => az _ he, rfl⟩, fun q hq => by simp at hq, rfl, aD .., g1, fun sz v h => (by cases h), fun I2 hc => ?_⟩
    have h1 : I2.ι (ρ.o i) = I.ι i := hc.o i i (aD ..)
    have hb : BR I2 w (ρ.o i) (.fam _ _ xs) := ⟨B, h1.trans g1, by rw [hc.R]; exact g2, by rw [hc.R]; exact g3, g4, g5⟩
    exact LaidR.set hb LaidR.id
   ·cases h
 ·rename_i hk
  split at h
  ·rename_i n hn
   split at h
   ·rename_i cs hcs
    obtain ⟨b, c, t, b1, b2, b3⟩ := hH.obj n cs hcs
    obtain ⟨es, h1, h2, h3, h4⟩ := nb (ρ := ρ) (c := 1000 * (i + 1)) hH h b3
    refine ⟨es, n, _, h1, h2, h3, h1.σ _ (Met.get_mem hn), b1, fun sz v h => (by cases h), fun I2 hc => ?_⟩
    obtain ⟨g1, g2⟩ := h4 I2 hc
    rw [xh hk]
    have hbr : BR I2 w (ρ.o i) (.obj (iq ρ (1000 * (i + 1)) k x)) := ⟨b, c, t, (hc.o i n (h1.σ _ (Met.get_mem hn))).trans b1, b2, g1⟩
    exact LaidR.set hbr g2
   ·cases h
  ·cases h
theorem CZ (hH : HR I w H) : ∀ {os : List (List IK)} {i : Nat} {m : Met} {x : ol os} {m' : Met}, om H i os m = some (x, m') →
  ∃ es, Grow m m' es ∧ (∀ q ∈ es, rx I q) ∧ (gb ρ i os).Perm (es.map (fun q => ρ.r q.1) ++ ry ρ i os) ∧ (∀ j, j < os.length → ∃ n e, (i + j, n) ∈ m'.σ ∧ I.ι n = some e ∧ ∀ sz v, e ≠ .row sz v) ∧ ∀ I2, Cov I I2 ρ m' es → LaidR I2 w (sG ρ i os x) (gb ρ i os)
 | [], i, m, x, m', h => by
  simp only [om, ab, ah] at h
  obtain ⟨_, rfl⟩ := h
  exact ⟨[], Grow.refl m, fun q h => by simp at h, .refl _, fun j hj => by simp at hj, fun I2 hc H0 n => by simp only [sG]; exact LaidR.id H0 n⟩
 | k :: r, i, m, x, m', h => by
  simp only [om] at h
  split at h
  ·rename_i y m1 hy
   split at h
   ·rename_i z m2 hz
    simp only [ab, ah] at h
    obtain ⟨rfl, rfl⟩ := h
    obtain ⟨es, n, e, h1, h2, h3, b1, b2, b3, h4⟩ := MA (ρ := ρ) hH hy
    obtain ⟨es', k1, k2, k3, k4, k5⟩ := CZ (i := i + 1) hH hz
    refine ⟨es ++ es', h1.trans k1, yQ h2 k2, ?_, fun j hj => ?_, fun I2 hc => ?_⟩
    ·simp only [gb, ry, cA, h3]
     refine (List.Perm.cons _ (List.Perm.append_left _ k3)).trans ?_
     rw [← aI]
     exact List.perm_middle.symm
    ·cases j with
     | zero => exact ⟨n, e, k1.σ _ b1, b2, b3⟩
     | succ j =>
      obtain ⟨n', b', e1, e2⟩ := k4 j (by simpa using hj)
      exact ⟨n', b', by rw [show i + (j + 1) = i + 1 + j by omega]; exact e1, e2⟩
    ·have g2 := h4 I2 (hc.left k1.σ)
     have g3 := k5 I2 hc.right
     intro H0 q
     simp only [sG, gb]
     have := LaidR.comp g2 g3 H0 q
     simpa using this
   ·cases h
  ·cases h
theorem nc : ∀ {l : List Nat}, jn l = true → l.Nodup
 | [], _ => List.nodup_nil
 | a :: r, h => by
  simp only [jn, aj, bJ] at h
  rw [bp]
  exact ⟨by rw [← List.contains_iff_mem, h.1]; simp, nc h.2⟩
end
theorem eU {α β : Type} {f : α → β} : ∀ {l : List α}, (l.map f).Nodup → ∀ {a b : α}, a ∈ l → b ∈ l → f a = f b → a = b
 | [], _, a, b, ha, _, _ => by simp at ha
 | c :: r, h, a, b, ha, hb, e => by
  rw [List.map_cons, bp] at h
  rcases aB.1 ha with rfl | ha'
  ·rcases aB.1 hb with rfl | hb'
   ·rfl
   ·exact absurd (e ▸ bf hb') h.1
  ·rcases aB.1 hb with rfl | hb'
   ·exact absurd (e ▸ bf ha') h.1
   ·exact eU h.2 ha' hb' e
theorem lX {α β : Type} {f : α → Option β} : ∀ {l : List α}, (l.filterMap f).Nodup → ∀ {a b : α} {o : β}, a ∈ l → b ∈ l → f a = some o → f b = some o → a = b
 | [], _, a, b, o, ha, _, _, _ => by simp at ha
 | c :: r, h, a, b, o, ha, hb, e, e' => by
  rw [List.filterMap_cons] at h
  have tl : (r.filterMap f).Nodup := by
   split at h
   ·exact h
   ·exact (bp.1 h).2
  rcases aB.1 ha with rfl | ha'
  ·rcases aB.1 hb with rfl | hb'
   ·rfl
   ·rw [e] at h
    exact absurd (List.mem_filterMap.2 ⟨b, hb', e'⟩) (bp.1 h).1
  ·rcases aB.1 hb with rfl | hb'
   ·rw [e'] at h
    exact absurd (List.mem_filterMap.2 ⟨a, ha', e⟩) (bp.1 h).1
   ·exact lX tl ha' hb' e e'
theorem rz (ρ : Nam) : ∀ (os : List (List IK)) (i : Nat), ry ρ i os = (List.range os.length).map fun j => ρ.o (i + j)
 | [], i => rfl
 | k :: r, i => by
  simp only [ry, aH, List.range_succ_eq_map, List.map_cons, List.map_map, cu]
  rw [rz ρ r (i + 1)]
  congr 1
  refine bz fun j _ => ?_
  simp only [Function.comp]
  congr 1
  omega
section
variable {I Ib : In} {w : World} {H Hb : Heap} {ρ : Nam}
structure Lay (I Ib I2 : In) (w : World) (t : Tmpl) (ρ : Nam) (x : t.Ty) (m : Met) (vals : Nat → Value) (Hb : Heap) : Prop where
 hr : HR I2 w (t.H ρ x Hb)
 val : ∀ i, VR I2 w ((t.T ρ x).getD i .undef) (vals i)
 R : I2.R = I.R
 out : ∀ n, n ∉ t.names ρ → I2.ι n = Ib.ι n
 obj : ∀ i, i < t.os.length → ∃ n e, (i, n) ∈ m.σ ∧ I.ι n = some e ∧ I2.ι (ρ.o i) = some e ∧ ∀ sz v, e ≠ .row sz v
 old : ∀ n e b, n ∈ t.names ρ → I2.ι n = some e → e.has b → ∃ n' e', I.ι n' = some e' ∧ e'.has b ∧ (n' ∈ m.u ∨ n' ∈ m.σ.map (·.2))
 met : ∀ e ∈ m.σ, e.1 < t.os.length
 key : (m.σ.map (·.1)).Nodup
 rows : ∀ n, n ∈ m.u → ∃ sz v, I.ι n = some (.row sz v)
 nd : (m.u ++ m.σ.map (·.2)).Nodup
 same : ∀ n e, (∀ s B, e ≠ .fam s B) → Ib.ι n = some e → I2.ι n = some e
 row : ∀ n e, n ∈ t.names ρ → I2.ι n = some e → (∃ i, i < t.os.length ∧ n = ρ.o i ∧ ∀ sz v, e ≠ .row sz v) ∨ ∃ sz v, e = .row sz v
structure Base (I Ib : In) (w : World) (t : Tmpl) (ρ : Nam) (m : Met) (Hb : Heap) : Prop where
 br : ∀ n b, Hb n = some b → BR Ib w n b
 dom : ∀ n, Hb n = none → n ∉ t.names ρ → Ib.ι n = none
 old : ∀ n e, n ∈ t.names ρ → Ib.ι n = some e → (∀ s B, e ≠ .fam s B) → ∃ i n', (i, n') ∈ m.σ ∧ n = ρ.o i ∧ I.ι n' = some e
 lt : ∀ n e b, n ∉ t.names ρ → Ib.ι n = some e → e.has b → b < w.heap.size ∧ ¬ I.R b
 inj : ∀ n n' e e' b, n ∉ t.names ρ → n' ∉ t.names ρ → Ib.ι n = some e → Ib.ι n' = some e' → e.has b → e'.has b → n = n'
 R : ∀ b, Ib.R b → I.R b
 F : ∀ n s B, n ∉ t.names ρ → Ib.ι n = some (.fam s B) → I.R.fam s = Ib.R.fam s
 Fk : ∀ (s : TypeId) (i b : Nat), (Ib.R.fam s)[i]? = some b → (I.R.fam s)[i]? = some b
 one : ∀ n n' s B B', n ∉ t.names ρ → Ib.ι n = some (.fam s B) → I.ι n' = some (.fam s B') → (n' ∈ m.u ∨ n' ∈ m.σ.map (·.2)) → False
 one' : ∀ n n' s B B', n ∉ t.names ρ → n' ∉ t.names ρ → Ib.ι n = some (.fam s B) → Ib.ι n' = some (.fam s B') → n = n'
 dis : ∀ n e n' e' b, n ∉ t.names ρ → Ib.ι n = some e → I.ι n' = some e' → (n' ∈ m.u ∨ n' ∈ m.σ.map (·.2)) → e.has b → ¬ e'.has b
theorem gW (I : In) (w : World) (t : Tmpl) (ρ : Nam) (m : Met) : Base I ⟨fun _ => none, I.R⟩ w t ρ m (fun _ => none) where
 br := by intro n b h; cases h
 dom := by intro n _ _; rfl
 old := by intro n e _ h; cases h
 lt := by intro n e b _ h; cases h
 inj := by intro n n' e e' b _ _ h; cases h
 R := fun _ h => h
 F := by intro n s B _ h; cases h
 Fk := fun _ _ _ h => h
 one := by intro n n' s B B' _ h; cases h
 one' := by intro n n' s B B' _ _ h; cases h
 dis := by intro n e n' e' b _ h; cases h
theorem jx {t : Tmpl} {m0 m : Met} {x : t.Ty} {T : List DV} {vals : Nat → Value} (hH : HR I w H) (hu : m0.u = []) (h : t.pr m0 T H = some (x, m)) (hV : ∀ i, VR I w (T.getD i .undef) (vals i)) (hb : Base I Ib w t ρ m Hb) (hfree : t.free ρ Hb = true) : (∃ I2, Lay I Ib I2 w t ρ x m vals Hb) ∧ t.ks.length ≤ T.length ∧ m0.σ ⊆ m.σ := by
 unfold Tmpl.pr at h
 split at h
 ·rename_i x1 m1 h1
  split at h
  ·rename_i y m2 h2
   split at h
   ·rename_i hc
    simp only [ab, ah] at h
    obtain ⟨rfl, rfl⟩ := h
    simp only [aj, aN, av] at hc
    obtain ⟨⟨c1, c2⟩, c3⟩ := hc
    have n1 := nc c1
    have n2 := nc c2
    obtain ⟨es, g1, g2, g3, g4, g5⟩ := jw (ρ := ρ) (c := 0) hH h1 hV
    obtain ⟨es', k1, k2, k3, k4, k5⟩ := CZ (ρ := ρ) hH h2
    unfold Tmpl.free at hfree
    simp only [aj, aN, Option.isNone_iff_eq_none] at hfree
    have hnd := nc hfree.1
    have hnone := hfree.2
    have hgr := g1.trans k1
    have hu2 : m2.u = ((es ++ es').filterMap (·.2.2)).reverse := by rw [hgr.u, hu, aG]
    generalize hes : es ++ es' = E at hgr hu2
    -- the names
    have hperm : (t.names ρ).Perm (E.map (fun q => ρ.r q.1) ++ ry ρ 0 t.os) := by
     unfold Tmpl.names
     rw [← hes, cA, ← g3, aI]
     exact List.Perm.append_left _ k3
    have hnd2 := (hperm.nodup_iff).1 hnd
    rw [List.nodup_append] at hnd2
    obtain ⟨d1, d2, d3⟩ := hnd2
    have hmem : ∀ n, n ∈ t.names ρ ↔ (∃ q ∈ E, ρ.r q.1 = n) ∨ ∃ i, i < t.os.length ∧ ρ.o i = n := by
     intro n
     rw [hperm.mem_iff, aA, List.mem_map, rz, List.mem_map]
     simp only [bh, bw]
    let I2 : In := ⟨fun n => match E.find? (fun q => ρ.r q.1 == n) with
     | some q => some q.2.1
     | none => match (List.range t.os.length).find? (fun i => ρ.o i == n) with
      | some i => match m2.get i with | some n' => I.ι n' | none => none
      | none => Ib.ι n, I.R⟩
    have ir : ∀ q ∈ E, I2.ι (ρ.r q.1) = some q.2.1 := by
     intro q hq
     show (match E.find? (fun p => ρ.r p.1 == ρ.r q.1) with | some q => some q.2.1 | none => _) = _
     cases hf : E.find? (fun p => ρ.r p.1 == ρ.r q.1) with
     | none => exact absurd (List.find?_eq_none.1 hf q hq) (by simp)
     | some p =>
      have hp := ci hf
      have hpm := cj hf
      simp only [ai] at hp
      rw [eU d1 hpm hq hp]
    have rnone : ∀ n, (∀ q ∈ E, ρ.r q.1 ≠ n) → E.find? (fun q => ρ.r q.1 == n) = none := fun n hn => List.find?_eq_none.2 fun q hq => by simp [hn q hq]
    have hget : ∀ i n, (i, n) ∈ m2.σ → m2.get i = some n := by
     intro i n hin
     unfold Met.get
     cases hf : m2.σ.find? (fun e => e.1 == i) with
     | none => exact absurd (List.find?_eq_none.1 hf (i, n) hin) (by simp)
     | some p =>
      have hp := ci hf
      have hpm := cj hf
      simp only [ai] at hp
      have := eU n2 hpm hin hp
      rw [this]
      rfl
    have io : ∀ i n, (i, n) ∈ m2.σ → I2.ι (ρ.o i) = I.ι n := by
     intro i n hin
     have hi := c3 _ hin
     have hio : ρ.o i ∈ ry ρ 0 t.os := by
      rw [rz, List.mem_map]
      exact ⟨i, by simpa using hi, by simp⟩
     show (match E.find? (fun p => ρ.r p.1 == ρ.o i) with | some q => some q.2.1 | none => _) = _
     rw [rnone _ (fun q hq e => d3 _ (bf hq) _ hio e)]
     cases hf : (List.range t.os.length).find? (fun j => ρ.o j == ρ.o i) with
     | none => exact absurd (List.find?_eq_none.1 hf i (by simpa using hi)) (by simp)
     | some j =>
      have hj := ci hf
      have hjm := cj hf
      simp only [ai] at hj
      rw [rz] at d2
      have : j = i := eU d2 hjm (by simpa using hi) (by simpa using hj)
      subst this
      simp only [hget j n hin]
    have ib : ∀ n, n ∉ t.names ρ → I2.ι n = Ib.ι n := by
     intro n hn
     rw [hmem] at hn
     show (match E.find? (fun p => ρ.r p.1 == n) with | some q => some q.2.1 | none => _) = _
     rw [rnone n (fun q hq e => hn (.inl ⟨q, hq, e⟩))]
     have : (List.range t.os.length).find? (fun i => ρ.o i == n) = none := List.find?_eq_none.2 fun i hi => by
      simp only [bh] at hi
      intro e
      exact hn (.inr ⟨i, hi, by simpa using e⟩)
     rw [this]
    have hcov : Cov I I2 ρ m2 E := ⟨rfl, io, ir⟩
    rw [← hes] at hcov
    obtain ⟨f1, f2⟩ := g5 I2 (hcov.left k1.σ)
    have f3 := k5 I2 hcov.right
    rw [hes] at hcov
    have hlaid : LaidR I2 w (fun H => el ρ 0 t.ks x1 (sG ρ 0 t.os y H)) (gb ρ 0 t.os ++ de ρ 0 t.ks) := LaidR.comp f3 f2
    have hobj : ∀ i, i < t.os.length → ∃ n e, (i, n) ∈ m2.σ ∧ I.ι n = some e ∧ ∀ sz v, e ≠ .row sz v := fun i hi => by
     obtain ⟨n, e, e1, e2, e3⟩ := k4 i hi
     rw [bw] at e1
     exact ⟨n, e, e1, e2, e3⟩
    have hu3 : (E.filterMap (·.2.2)).Nodup := by
     have := (List.nodup_append.1 n1).1
     rw [hu2] at this
     exact (List.reverse_perm _).nodup_iff.1 this
    have hin_u : ∀ q ∈ E, ∀ n, q.2.2 = some n → n ∈ m2.u := fun q hq n hn => by
     rw [hu2, List.mem_reverse, List.mem_filterMap]
     exact ⟨q, hq, hn⟩
    have hre : ∀ q ∈ E, rx I q := by rw [← hes]; exact yQ g2 k2
    -- where an entry comes from
    have org : ∀ n e, I2.ι n = some e → (∃ q ∈ E, ρ.r q.1 = n ∧ e = q.2.1) ∨ (∃ i n', i < t.os.length ∧ ρ.o i = n ∧ (i, n') ∈ m2.σ ∧ I.ι n' = some e) ∨ (n ∉ t.names ρ ∧ Ib.ι n = some e) := by
     intro n e hn
     by_cases hm : n ∈ t.names ρ
     ·rcases (hmem n).1 hm with ⟨q, hq, rfl⟩ | ⟨i, hi, rfl⟩
      ·rw [ir q hq] at hn
       simp only [ab] at hn
       exact .inl ⟨q, hq, rfl, hn.symm⟩
      ·obtain ⟨n', b, e1, e2⟩ := hobj i hi
       rw [io i n' e1] at hn
       exact .inr (.inl ⟨i, n', hi, rfl, e1, hn⟩)
     ·rw [ib n hm] at hn
      exact .inr (.inr ⟨hm, hn⟩)
    have oldr : ∀ q ∈ E, ∀ b, q.2.1.has b → ∃ n e, q.2.2 = some n ∧ I.ι n = some e ∧ e.has b := by
     intro q hq b hb
     have := (hre q hq).2
     cases hq2 : q.2.2 with
     | none => rw [hq2] at this; exact absurd hb (this b)
     | some n =>
      rw [hq2] at this
      obtain ⟨e, e1, _, e2⟩ := this
      exact ⟨n, e, rfl, e1, (e2 b).1 hb⟩
    have key : ∀ n e, (∀ s B, e ≠ .fam s B) → Ib.ι n = some e → I2.ι n = some e := fun n e hnf hn => by
     by_cases hm : n ∈ t.names ρ
     ·obtain ⟨i, n', e1, rfl, e2⟩ := hb.old n e hm hn hnf
      rw [io i n' e1]
      exact e2
     ·rw [ib n hm]
      exact hn
    have hsame : Same Ib I2 w w := ⟨⟨hb.R, fun _ _ => rfl, hb.Fk⟩, fun n b => key n _ (fun _ _ h => (by cases h)), fun n sz v => key n _ (fun _ _ h => (by cases h))⟩
    refine ⟨⟨I2, ⟨HR.of (fun n b hn => ?_) (fun n hn => ?_) (fun n e b hn hbl => ?_) (fun n n' e e' b hn hn' hbl hbl' => ?_) (fun b hR => hH.rlt b hR) (fun n n' s B B' hn hn' => ?_), f1, rfl, ib, fun i hi => ?_, fun n e b hm hn hbl => ?_, c3, n2, fun n hn => ?_, n1, key, fun n e hm hn => ?_⟩⟩, g4, fun e he => hgr.σ e he⟩
    ·rcases (hlaid Hb n).1 b hn with h3 | h3
     ·exact h3
     ·exact (hb.br n b h3).keep hsame (fun s B h => by
       have hnm : n ∉ t.names ρ := fun hm => by rw [hnone n hm] at h3; cases h3
       exact ⟨(ib n hnm).trans h, hb.F n s B hnm h⟩) (fun _ _ _ _ => rfl)
    ·obtain ⟨h3, h4⟩ := (hlaid Hb n).2 hn
     have hnm : n ∉ t.names ρ := by unfold Tmpl.names; rw [aA] at h4 ⊢; exact fun h => h4 h.symm
     rw [ib n hnm]
     exact hb.dom n h3 hnm
    ·rcases org n e hn with ⟨q, hq, _, rfl⟩ | ⟨i, n', _, _, _, h3⟩ | ⟨hnm, h3⟩
     ·obtain ⟨o, e', _, h4, h5⟩ := oldr q hq b hbl
      exact hH.lt o e' b h4 h5
     ·exact hH.lt n' e b h3 hbl
     ·exact hb.lt n e b hnm h3 hbl
    ·rcases org n e hn with ⟨q, hq, rfl, rfl⟩ | ⟨i, o, hi, rfl, hio, h3⟩ | ⟨hnm, h3⟩
     ·obtain ⟨o, e0, h4, h5, h6⟩ := oldr q hq b hbl
      rcases org n' e' hn' with ⟨q', hq', rfl, rfl⟩ | ⟨i', o', hi', rfl, hio', h3'⟩ | ⟨hnm', h3'⟩
      ·obtain ⟨o', e0', h4', h5', h6'⟩ := oldr q' hq' b hbl'
       have := hH.inj o o' e0 e0' b h5 h5' h6 h6'
       subst this
       rw [lX hu3 hq hq' h4 h4']
      ·have := hH.inj o o' e0 e' b h5 h3' h6 hbl'
       subst this
       exact absurd rfl ((List.nodup_append.1 n1).2.2 o (hin_u q hq o h4) o (bf (f := (·.2)) hio'))
      ·exact absurd h6 (hb.dis n' e' o e0 b hnm' h3' h5 (.inl (hin_u q hq o h4)) hbl')
     ·rcases org n' e' hn' with ⟨q', hq', rfl, rfl⟩ | ⟨i', o', hi', rfl, hio', h3'⟩ | ⟨hnm', h3'⟩
      ·obtain ⟨o', e0', h4', h5', h6'⟩ := oldr q' hq' b hbl'
       have := hH.inj o o' e e0' b h3 h5' hbl h6'
       subst this
       exact absurd rfl ((List.nodup_append.1 n1).2.2 o (hin_u q' hq' o h4') o (bf (f := (·.2)) hio))
      ·have := hH.inj o o' e e' b h3 h3' hbl hbl'
       subst this
       have := eU (f := (·.2)) (List.nodup_append.1 n1).2.1 hio hio' rfl
       simp only [ah] at this
       rw [this.1]
      ·exact absurd hbl (hb.dis n' e' o e b hnm' h3' h3 (.inr (bf (f := (·.2)) hio)) hbl')
     ·rcases org n' e' hn' with ⟨q', hq', rfl, rfl⟩ | ⟨i', o', hi', rfl, hio', h3'⟩ | ⟨hnm', h3'⟩
      ·obtain ⟨o', e0', h4', h5', h6'⟩ := oldr q' hq' b hbl'
       exact absurd h6' (hb.dis n e o' e0' b hnm h3 h5' (.inl (hin_u q' hq' o' h4')) hbl)
      ·exact absurd hbl' (hb.dis n e o' e' b hnm h3 h3' (.inr (bf (f := (·.2)) hio')) hbl)
      ·exact hb.inj n n' e e' b hnm hnm' h3 h3' hbl hbl'
    ·have norow : ∀ q ∈ E, ∀ s B, q.2.1 ≠ .fam s B := fun q hq s B h => by
      obtain ⟨⟨sz, v, e⟩, _⟩ := hre q hq
      rw [e] at h
      cases h
     rcases org n _ hn with ⟨q, hq, _, h⟩ | ⟨i, o, hi, rfl, hio, h3⟩ | ⟨hnm, h3⟩
     ·exact absurd h.symm (norow q hq s B)
     ·rcases org n' _ hn' with ⟨q', hq', _, h'⟩ | ⟨i', o', hi', rfl, hio', h3'⟩ | ⟨hnm', h3'⟩
      ·exact absurd h'.symm (norow q' hq' s B')
      ·have := hH.one o o' s B B' h3 h3'
       subst this
       have := eU (f := (·.2)) (List.nodup_append.1 n1).2.1 hio hio' rfl
       simp only [ah] at this
       rw [this.1]
      ·exact (hb.one n' o s B' B hnm' h3' h3 (.inr (bf (f := (·.2)) hio))).elim
     ·rcases org n' _ hn' with ⟨q', hq', _, h'⟩ | ⟨i', o', hi', rfl, hio', h3'⟩ | ⟨hnm', h3'⟩
      ·exact absurd h'.symm (norow q' hq' s B')
      ·exact (hb.one n o' s B B' hnm h3 h3' (.inr (bf (f := (·.2)) hio'))).elim
      ·exact hb.one' n n' s B B' hnm hnm' h3 h3'
    ·obtain ⟨n, e, e1, e2, e3⟩ := hobj i hi
     exact ⟨n, e, e1, e2, (io i n e1).trans e2, e3⟩
    ·rcases org n e hn with ⟨q, hq, _, rfl⟩ | ⟨i, n', _, _, hio, h3⟩ | ⟨hnm, _⟩
     ·obtain ⟨o, e', h4, h5, h6⟩ := oldr q hq b hbl
      exact ⟨o, e', h5, h6, .inl (hin_u q hq o h4)⟩
     ·exact ⟨n', e, h3, hbl, .inr (bf (f := (·.2)) hio)⟩
     ·exact absurd hm hnm
    ·rw [hu2, List.mem_reverse, List.mem_filterMap] at hn
     obtain ⟨q, hq, hq2⟩ := hn
     have := (hre q hq).2
     rw [hq2] at this
     obtain ⟨e, e1, ⟨sz, v, rfl⟩, _⟩ := this
     exact ⟨sz, v, e1⟩
    ·rcases org n e hn with ⟨q, hq, _, rfl⟩ | ⟨i, n', hi, h4, hio, h3⟩ | ⟨hnm, _⟩
     ·exact .inr (hre q hq).1
     ·obtain ⟨n2', b, e1, e2, e3⟩ := hobj i hi
      have : n' = n2' := by
       have a1 := hget i n' hio
       have a2 := hget i n2' e1
       rw [a1] at a2
       simpa using a2
      subst this
      rw [h3] at e2
      simp only [ab] at e2
      exact .inl ⟨i, hi, h4.symm, by rw [e2]; exact e3⟩
     ·exact absurd hm hnm
   ·cases h
  ·cases h
 ·cases h
end
section
variable {P : Program} {α : Type}
theorem EM {d : Nat} {o : Oper} {E : TypeId} {s : Sh} {x : DV} {ys : List s.T} {T : List DV} {H : Heap} {k : List DV → Heap → Option α} : iU P d o E s x ys T H k = (iU P d o E s x ys T H fun T H => some (T, H)).bind fun e => k e.1 e.2 := by
 unfold iU
 repeat' split
 all_goals first | rfl | (rw [gJ, gJ (k := fun v a => some (dE T o.dst v, H.act a))]; generalize gc d o H _ _ _ = z; cases z <;> rfl)
theorem oD {d : Nat} {o : Oper} {T : List DV} {H : Heap} {k : List DV → Heap → Option α} : (eO P d o T H fun v a => k (dE T o.dst v) (H.act a)) = (eO P d o T H fun v a => some (dE T o.dst v, H.act a)).bind fun e => k e.1 e.2 := by
 rw [qa, qa (k := fun v a => some (dE T o.dst v, H.act a))]
 generalize eO P d o T H (fun v a => some (v, a)) = z
 cases z <;> rfl
theorem vK {d : Nat} {o : Oper} {T : List DV} {H : Heap} {k : K α} : lv P d o T H k = (lv P d o T H fun T H => some (T, H)).bind fun e => k e.1 e.2 := by
 unfold lv
 split
 ·split
  exact oD
 ·split
  ·split
   exact oD
  ·exact oD
 ·split
  ·repeat' split
   all_goals first | rfl | exact EM
  ·repeat' split
   all_goals rfl
  ·exact oD
 ·exact oD
end
def yR (call : (α : Type) → gH α) : Prop := ∀ {α : Type} {g : FuncId} {A : List DV} {H : Heap} {k : DV → Heap → Option (List Nat) → Option α}, call α g A H k = (call _ g A H fun v H u => some (v, H, u)).bind fun e => k e.1 e.2.1 e.2.2
theorem eo {α β γ : Type} {x : Option α} {f : α → Option β} {g : β → Option γ} {h : α → Option γ} (e : ∀ a, h a = (f a).bind g) : x.bind h = (x.bind f).bind g := by
 cases x with
 | none => rfl
 | some a => exact e a
section
variable {cx : Cx} {call : (α : Type) → gH α} {α : Type}
theorem tP (hc : yR call) {d : Nat} {ops : Array Oper} : ∀ {l : List Oper} {α : Type} {T : List DV} {H : Heap} {k : K α}, e9 cx (call α) d ops l T H k = (e9 cx (call _) d ops l T H fun T H => some (T, H)).bind fun e => k e.1 e.2
 | [], α, T, H, k => rfl
 | o :: l, α, T, H, k => by
  have ih : ∀ {T : List DV} {H : Heap}, e9 cx (call α) d ops l T H k = (e9 cx (call _) d ops l T H fun T H => some (T, H)).bind fun e => k e.1 e.2 := tP hc
  have hp : ∀ {T : List DV}, (lv cx.P d o T H fun T H => e9 cx (call α) d ops l T H k) = (lv cx.P d o T H fun T H => e9 cx (call _) d ops l T H fun T H => some (T, H)).bind fun e => k e.1 e.2 := by
   intro T
   rw [vK, vK (k := fun T H => e9 cx (call _) d ops l T H fun T H => some (T, H))]
   exact eo fun a => ih
  have hcall : ∀ {g : FuncId} {A T : List DV} {H : Heap}, (call α g A H fun v H u => e9 cx (call α) d ops l (dE (ku T u) o.dst v) H k) = (call _ g A H fun v H u => e9 cx (call _) d ops l (dE (ku T u) o.dst v) H fun T H => some (T, H)).bind fun e => k e.1 e.2 := by
   intro g A T H
   rw [hc, hc (k := fun v H u => e9 cx (call _) d ops l (dE (ku T u) o.dst v) H fun T H => some (T, H))]
   exact eo fun a => ih
  unfold e9
  simp only [Av, Hp]
  repeat' split
  all_goals first | rfl | exact hp | exact ih | exact hcall
theorem pk : ∀ {l : List FS} {A : List DV} {k : DV → Option α}, nO l A k = (nO l A (fun v => some v)).map fun q => q.bind k
 | [], _, _ => rfl
 | S :: l, A, k => by
  simp only [nO]
  split
  ·split
   ·simp only [bF, ab]
    exact eo fun a => rfl
   ·exact pk
  ·exact pk
theorem tQ : ∀ {l : List FS} {A : List DV} {H : Heap} {b : Nat} {k : DV → Act2 → Option α}, pf l A H b k = (pf l A H b (fun v a => some (v, a))).map fun q => q.bind fun e => k e.1 e.2
 | [], _, _, _, _ => rfl
 | S :: l, A, H, b, k => by
  simp only [pf]
  split
  ·simp only [bF, ab]
   refine eo fun a => ?_
   split <;> rfl
  ·exact tQ
theorem rA : ∀ {l : List FS} {A : List DV} {H : Heap} {k : DV → List Nat → Option α}, mZ l A H k = (mZ l A H (fun v rd => some (v, rd))).map fun q => q.bind fun e => k e.1 e.2
 | [], _, _, _ => rfl
 | S :: l, A, H, k => by
  simp only [mZ]
  split
  ·simp only [bF, ab]
   exact eo fun a => rfl
  ·exact rA
theorem rB : ∀ {l : List QR} {A : List DV} {H : Heap} {k : Blk → List Nat → Option α}, m9 l A H k = (m9 l A H (fun v rd => some (v, rd))).map fun q => q.bind fun e => k e.1 e.2
 | [], _, _, _ => rfl
 | S :: l, A, H, k => by
  simp only [m9]
  split
  ·simp only [bF, ab]
   exact eo fun a => rfl
  ·exact rB
theorem AJ {P : Program} {d : Nat} {o : Oper} {c : Call} {T : List DV} {H : Heap} {k : DV → Act2 → Option α} : vD P d o c T H k = (vD P d o c T H fun v a => some (v, a)).bind fun e => k e.1 e.2 := by
 unfold vD
 repeat' split
 all_goals first | rfl | exact wz
theorem rC (hc : yR call) {d : Nat} {ops : Array Oper} {anc : List Nat} : ∀ {l : List Oper} {m : Nat} {q : Bool} {log : List (Nat × Did)} {α : Type} {T : List DV} {H : Heap} {k : K α}, dN cx (call α) d ops anc l m q log T H k = (dN cx (call _) d ops anc l m q log T H fun T H => some (T, H)).bind fun e => k e.1 e.2
 | [], m, q, log, α, T, H, k => rfl
 | o :: l, m, q, log, α, T, H, k => by
  have ih : ∀ {m : Nat} {q : Bool} {log : List (Nat × Did)} {T : List DV} {H : Heap}, dN cx (call α) d ops anc l m q log T H k = (dN cx (call _) d ops anc l m q log T H fun T H => some (T, H)).bind fun e => k e.1 e.2 := rC hc
  have hn : ∀ {c : Bool} {m : Nat} {q : Bool} {log : List (Nat × Did)} {T : List DV} {H : Heap}, (if c = true then dN cx (call α) d ops anc l m q log T H k else none) = (if c = true then dN cx (call _) d ops anc l m q log T H fun T H => some (T, H) else none).bind fun e => k e.1 e.2 := by
   intro c m q log T H
   cases c
   ·rfl
   ·exact ih
  have hE : ∀ {T : List DV} {c : DV → fL → Bool} {m : Nat} {qg : DV → fL → Bool} {lg : DV → fL → List (Nat × Did)}, (eO cx.P d o T H fun v a => if c v a = true then dN cx (call α) d ops anc l m (qg v a) (lg v a) (dE T o.dst v) (H.act a) k else none) = (eO cx.P d o T H fun v a => if c v a = true then dN cx (call _) d ops anc l m (qg v a) (lg v a) (dE T o.dst v) (H.act a) fun T H => some (T, H) else none).bind fun e => k e.1 e.2 := by
   intro T c m qg lg
   rw [qa, qa (k := fun v a => if c v a = true then dN cx (call _) d ops anc l m (qg v a) (lg v a) (dE T o.dst v) (H.act a) fun T H => some (T, H) else none)]
   exact eo fun a => hn
  have hp : ∀ {m : Nat} {T : List DV}, (lv cx.P d o T H fun T H => dN cx (call α) d ops anc l m true [] T H k) = (lv cx.P d o T H fun T H => dN cx (call _) d ops anc l m true [] T H fun T H => some (T, H)).bind fun e => k e.1 e.2 := by
   intro m T
   rw [vK, vK (k := fun T H => dN cx (call _) d ops anc l m true [] T H fun T H => some (T, H))]
   exact eo fun a => ih
  have hcall : ∀ {m : Nat} {g : FuncId} {A T : List DV} {H : Heap}, (call α g A H fun v H u => dN cx (call α) d ops anc l m true [] (dE (ku T u) o.dst v) H k) = (call _ g A H fun v H u => dN cx (call _) d ops anc l m true [] (dE (ku T u) o.dst v) H fun T H => some (T, H)).bind fun e => k e.1 e.2 := by
   intro m g A T H
   rw [hc, hc (k := fun v H u => dN cx (call _) d ops anc l m true [] (dE (ku T u) o.dst v) H fun T H => some (T, H))]
   exact eo fun a => ih
  have hrun : ∀ {n : Nat} {T : List DV} {c : DV → fL → Bool} {m : Nat} {qg : DV → fL → Bool} {lg : DV → fL → List (Nat × Did)} {cs : List Nat → DV → Act2 → Bool} {ls : List Nat → DV → Act2 → List (Nat × Did)}, zP cx (call α) d ops.size anc o n T H (fun v a => if c v a = true then dN cx (call α) d ops anc l m (qg v a) (lg v a) (dE T o.dst v) (H.act a) k else none) (fun rd v a => if cs rd v a = true then dN cx (call α) d ops anc l m false (ls rd v a) (dE (dJ a.u T) o.dst v) (H.act2 a) k else none) (fun T H => dN cx (call α) d ops anc l m true [] T H k) =
    (zP cx (call _) d ops.size anc o n T H (fun v a => if c v a = true then dN cx (call _) d ops anc l m (qg v a) (lg v a) (dE T o.dst v) (H.act a) fun T H => some (T, H) else none) (fun rd v a => if cs rd v a = true then dN cx (call _) d ops anc l m false (ls rd v a) (dE (dJ a.u T) o.dst v) (H.act2 a) fun T H => some (T, H) else none) (fun T H => dN cx (call _) d ops anc l m true [] T H fun T H => some (T, H))).bind fun e => k e.1 e.2 := by
   intro n T c m qg lg cs ls
   unfold zP
   split
   ·split
    ·split
     ·rename_i g a b hf
      have hz : ∀ {x : Option α} {y : Option (List DV × Heap)}, x = (y.bind fun e => k e.1 e.2) → x = (y.bind fun e => k e.1 e.2) := id
      generalize oq cx g (a ++ List.map (dh T) _ ++ b) = tv
      cases tv with
      | some v => exact hn
      | none =>
      simp only
      rw [pk (α := α), pk (α := List DV × Heap)]
      cases fY cx.P g with
      | true =>
       simp only [if_true]
       generalize nO (cx.specs g) (a ++ List.map (dh T) _ ++ b) (fun v => some v) = z
       cases z with
       | none =>
        simp only [Option.map_none]
        rw [rA (α := α), rA (α := List DV × Heap)]
        generalize mZ (cx.qs g) (a ++ List.map (dh T) _ ++ b) H (fun v rd => some (v, rd)) = zq
        cases zq with
        | some q => exact eo fun v => hn
        | none =>
        simp only [Option.map_none]
        rw [rB (α := α), rB (α := List DV × Heap)]
        generalize m9 (cx.qr g) (a ++ List.map (dh T) _ ++ b) H (fun v rd => some (v, rd)) = zr
        cases zr with
        | some q =>
         refine eo fun v => ?_
         cases H (base d o.dst) with
         | none => exact hn
         | some bk => rfl
        | none =>
        simp only [Option.map_none]
        rw [tQ (α := α), tQ (α := List DV × Heap)]
        generalize pf (cx.specs g) (a ++ List.map (dh T) _ ++ b) H (Ct d o) (fun v a => some (v, a)) = zs
        split
        ·repeat' split
         all_goals exact hcall
        ·cases zs with
         | none => rfl
         | some q => exact eo fun v => hn
       | some q => exact eo fun v => hn
      | false =>
       simp only [aL, aC]
       repeat' split
       all_goals first | exact hcall | rfl
     ·rfl
    ·split
     ·exact hp
     ·rw [AJ (α := α), AJ (α := List DV × Heap)]
      exact eo fun v => hn
    ·exact hE
   ·split
    ·exact hp
    ·exact hE
   ·exact hE
  have hr : ∀ {T : List DV}, _ := fun {T : List DV} => hrun (n := m) (T := T) (c := fun v act => sH ops anc d m q log (iI ops T H o v (fd T o) (Act2.of act))) (m := m + 1) (qg := fun v act => q && act.isNone) (lg := fun v act => (m, iI ops T H o v (fd T o) (Act2.of act)) :: log) (cs := fun rd v act => sH ops anc d m q log (iI ops T H o v rd act)) (ls := fun rd v act => (m, iI ops T H o v rd act) :: log)
  unfold dN
  simp only
  split
  ·exact hr (T := T)
  ·split
   ·rename_i g hj
    split
    ·rename_i b hb
     cases b with
     | true =>
      simp only [if_true]
      split
      ·exact hr (T := T.set g (.sc (.bool true)))
      ·exact hn
     | false =>
      simp only [aL, aC]
      split
      ·exact hn
      ·exact hr (T := T.set g (.sc (.bool false)))
    ·exact hn
    ·rfl
   ·rfl
end
abbrev xi := Ex × List DV × Heap
theorem C0 {α : Type} {B : (β : Type) → (Ex → List DV → Heap → Option β) → Option β} (hB : ∀ (β : Type) (k : Ex → List DV → Heap → Option β), B β k = (B xi fun e T H => some (e, T, H)).bind fun p => k p.1 p.2.1 p.2.2) {k1 : Ex → List DV → Heap → Option α} {k2 : Ex → List DV → Heap → Option xi} {g : xi → Option α} (h : ∀ e T H, k1 e T H = (k2 e T H).bind g) : B α k1 = (B xi k2).bind g := by
 rw [hB α k1, hB xi k2]
 exact eo fun p => h p.1 p.2.1 p.2.2
section
variable {cx : Cx} {call : (α : Type) → gH α} {α : Type}
theorem rD {body : (β : Type) → List DV → Heap → (Ex → List DV → Heap → Option β) → Option β} (hb : ∀ {β : Type} {T : List DV} {H : Heap} {k : Ex → List DV → Heap → Option β}, body β T H k = (body _ T H fun e T H => some (e, T, H)).bind fun p => k p.1 p.2.1 p.2.2) : ∀ {n : Nat} {T : List DV} {H : Heap} {k : Ex → List DV → Heap → Option α}, lw (body α) n T H k = (lw (body xi) n T H fun e T H => some (e, T, H)).bind fun p => k p.1 p.2.1 p.2.2
 | 0, T, H, k => rfl
 | n + 1, T, H, k => by
  simp only [lw]
  refine C0 (B := fun β k => body β T H k) (fun β k => hb) fun e T H => ?_
  cases e
  ·exact rD hb
  ·rfl
  ·rfl
  ·rfl
theorem C1 : ∀ {os : List (Ex × Tmpl)} {y : pd os} {α β : Type} {k : Ex → (t : Tmpl) → t.Ty → Option α} {k' : Ex → (t : Tmpl) → t.Ty → Option β} {g : β → Option α}, (∀ e t y, k e t y = (k' e t y).bind g) → qU os y k = (qU os y k').bind g
 | [], y, α, β, k, k', g, h => by cases y
 | [e], y, α, β, k, k', g, h => h _ _ _
 | e :: f :: r, y, α, β, k, k', g, h => by
  cases y with
  | inl y => exact h _ _ _
  | inr y => exact C1 (os := f :: r) h
theorem AK {L : Loop} {b : Nat} {T : List DV} {H : Heap} {k : Ex → List DV → Heap → Option α} : pg L b T H k = (pg L b T H fun e T H => some (e, T, H)).bind fun p => k p.1 p.2.1 p.2.2 := by
 unfold pg
 split
 unfold tp
 split
 ·refine eo fun y => ?_
  refine C1 fun e t y => ?_
  simp only
  split <;> rfl
 ·rfl
theorem rE (hc : yR call) {f d : Nat} : ∀ (c : Code) {α : Type} {T : List DV} {H : Heap} {k : Ex → List DV → Heap → Option α}, dW cx (call α) f d c T H k = (dW cx (call xi) f d c T H fun e T H => some (e, T, H)).bind fun p => k p.1 p.2.1 p.2.2 := by
 intro c
 induction c with
 | skip => intros; rfl
 | label l => intros; rfl
 | exit id => intros; rfl
 | goto l => intros; rfl
 | ret => intros; rfl
 | refuse s => intros; rfl
 | rangeFunc _ _ _ _ _ _ => intros; rfl
 | region id ops draw =>
  intro α T H k
  simp only [dW]
  split
  ·split
   ·split
    ·rw [rC hc, rC hc (k := fun T H => some (Ex.norm, T, H))]
     exact eo fun p => rfl
    ·rfl
   ·rfl
  ·rw [tP hc, tP hc (k := fun T H => some (Ex.norm, T, H))]
   exact eo fun p => rfl
 | seq x y ihx ihy =>
  intro α T H k
  simp only [dW]
  split
  ·rename_i L hL
   refine C0 (B := fun β k => pg L _ T H k) (fun β k => AK) fun e T H => ?_
   cases e
   ·exact ihy
   ·rfl
   ·rfl
   ·rfl
  ·refine C0 (B := fun β k => dW cx (call β) f d x T H k) (fun β k => ihx) fun e T H => ?_
   cases e
   ·exact ihy
   ·rfl
   ·rfl
   ·rfl
 | cond c x y ihx ihy =>
  intro α T H k
  simp only [dW]
  repeat' split
  all_goals first | rfl | exact ihx | exact ihy
 | block id c ih =>
  intro α T H k
  simp only [dW]
  refine C0 (B := fun β k => dW cx (call β) f d c T H k) (fun β k => ih) fun e T H => ?_
  cases e
  ·rfl
  ·simp only
   split <;> rfl
  ·rfl
  ·rfl
 | loop c ih =>
  intro α T H k
  simp only [dW]
  split
  ·split
   ·exact AK
   split
   ·rfl
   ·exact rD (body := fun β => dW cx (call β) f d c) (fun {β T H k} => ih)
  ·exact rD (body := fun β => dW cx (call β) f d c) (fun {β T H k} => ih)
 | scope c ih =>
  intro α T H k
  simp only [dW]
  refine C0 (B := fun β k => dW cx (call β) f d c T H k) (fun β k => ih) fun e T H => ?_
  cases e <;> rfl
theorem tR : ∀ {l : List FS} {A : List DV} {H : Heap} {b : Nat} {k : DV → Heap → Option (List Nat) → Option α}, ph l A H b k = (ph l A H b fun v H u => some (v, H, u)).map fun q => q.bind fun e => k e.1 e.2.1 e.2.2
 | [], A, H, b, k => rfl
 | S :: l, A, H, b, k => by
  simp only [ph]
  split
  ·simp only [bF, ab]
   refine eo fun y => ?_
   split <;> rfl
  ·exact tR
theorem HZ (hc : yR call) {f d : Nat} {A : List DV} {H : Heap} {k : DV → Heap → Option α} : jc cx (call α) f d A H k = (jc cx (call _) f d A H fun v H => some (v, H)).bind fun e => k e.1 e.2 := by
 unfold jc
 split
 ·rename_i fn hf
  split
  ·rename_i c hb
   rw [rE hc]
   conv => rhs; rw [rE hc]
   refine eo fun p => ?_
   obtain ⟨e, T, H⟩ := p
   cases e
   ·simp only; split <;> rfl
   ·rfl
   ·rfl
   ·simp only; split <;> rfl
  ·rfl
 ·rfl
theorem Gs (cx : Cx) (n : Nat) : ∀ d : Nat, yR (fun α => fe (α := α) cx n d) := by
 induction n with
 | zero => intro d α g A H k; rfl
 | succ n ih =>
  intro d α g A H k
  simp only [fe]
  split
  ·generalize oq cx g A = tv
   cases tv with
   | some v => rfl
   | none =>
   simp only
   rw [tR, tR (k := fun v H u => some (v, H, u))]
   generalize ph (cx.specs g) A H _ (fun v H u => some (v, H, u)) = z
   cases z with
   | none =>
    simp only [Option.map_none]
    have hb : ∀ {β : Type} {k : DV → Heap → Option β}, jc cx (fe cx n (d + 1)) g d A H k = (jc cx (fe cx n (d + 1)) g d A H fun v H => some (v, H)).bind fun e => k e.1 e.2 := fun {β k} => HZ (call := fun α => fe (α := α) cx n (d + 1)) (ih (d + 1))
    split
    ·rw [hb, hb (k := fun v H => some (v, H, none))]
     exact eo fun p => rfl
    ·rfl
   | some q =>
    simp only [bF]
  ·rfl
end
section
variable {X R : Type}
def it (s : (X → Option R) → X → Option R) : Nat → X → Option R
 | 0, _ => none
 | n + 1, x => s (it s n) x
def MB (s : (X → Option R) → X → Option R) : Prop := ∀ x, (∃ y, ∀ F, s F x = y) ∨ ∃ x', ∀ F, s F x = F x'
end
def C2 : Ex → Ex → Bool
 | .norm, .norm => true
 | .exit i, .exit j => i == j
 | .goto i, .goto j => i == j
 | .ret, .ret => true
 | _, _ => false
theorem Fi : ∀ {a b : Ex}, C2 a b = true → a = b
 | .norm, .norm, _ => rfl
 | .exit i, .exit j, h => by simp only [C2, ai] at h; rw [h]
 | .goto i, .goto j, h => by simp only [C2, ai] at h; rw [h]
 | .ret, .ret, _ => rfl
def pl {R : Type} (n : Nat) (e : Ex) (T : List DV) (H : Heap) : (os : List (Ex × Tmpl)) → (pd os → R) → Option R
 | [], _ => none
 | [o], g => if C2 o.1 e = true then match o.2.pr (kr n) T H with | some (y, _) => some (g y) | none => none else none
 | o :: p :: r, g => if C2 o.1 e = true then match o.2.pr (kr n) T H with | some (y, _) => some (g (.inl y)) | none => pl n e T H (p :: r) (fun y => g (.inr y)) else pl n e T H (p :: r) (fun y => g (.inr y))
def tS (L : Loop) (F : L.X → Option L.R) : Ex → List DV → Heap → Option L.R := fun e T H => match e with
 | .norm => match L.tin.pr (kr L.tin.os.length) T H with | some (y, _) => F (L.back y) | none => none
 | e => pl L.tin.os.length e T H L.outs L.inn
theorem nT {R : Type} {n : Nat} {e : Ex} {T : List DV} {H : Heap} : ∀ {os : List (Ex × Tmpl)} {g : pd os → R} {y : R}, pl n e T H os g = some y → ∃ (t : Tmpl) (z : t.Ty) (m : Met) (o : pd os), t.pr (kr n) T H = some (z, m) ∧ y = g o ∧ ∀ {β : Type} (K : Ex → (t : Tmpl) → t.Ty → Option β), qU os o K = K e t z
 | [], g, y, h => by cases h
 | [o], g, y, h => by
  simp only [pl] at h
  split at h
  ·rename_i he
   split at h
   ·rename_i z m hz
    simp only [ab] at h
    exact ⟨o.2, z, m, z, hz, h.symm, fun K => by simp only [qU]; rw [Fi he]⟩
   ·cases h
  ·cases h
 | o :: p :: r, g, y, h => by
  simp only [pl] at h
  split at h
  ·rename_i he
   split at h
   ·rename_i z m hz
    simp only [ab] at h
    exact ⟨o.2, z, m, .inl z, hz, h.symm, fun K => by simp only [qU]; rw [Fi he]⟩
   ·obtain ⟨t, z, m, q, h1, h2, h3⟩ := nT h
    exact ⟨t, z, m, .inr q, h1, h2, fun K => by simp only [qU]; exact h3 K⟩
  ·obtain ⟨t, z, m, q, h1, h2, h3⟩ := nT h
   exact ⟨t, z, m, .inr q, h1, h2, fun K => by simp only [qU]; exact h3 K⟩
def RoundEq (cx : Cx) (fuel f d : Nat) (L : Loop) (c : Code) (step : (L.X → Option L.R) → L.X → Option L.R) : Prop :=
 ∀ F x, dW cx (fe cx fuel (d + 1)) f d c (L.tin.T nam0 (L.into x)) (L.tin.H nam0 (L.into x) fun _ => none) (tS L F) = step F x
theorem RoundEq.one {cx : Cx} {fuel f d : Nat} {L : Loop} {c : Code} {step : (L.X → Option L.R) → L.X → Option L.R} (h : RoundEq cx fuel f d L c step) : MB step := by
 intro x
 have hn : ∀ F, step F x = _ := fun F => (h F x).symm.trans (rE (call := fun α => fe (α := α) cx fuel (d + 1)) (Gs cx fuel (d + 1)) c)
 cases hz : dW cx (fe cx fuel (d + 1)) f d c (L.tin.T nam0 (L.into x)) (L.tin.H nam0 (L.into x) fun _ => none) (fun e T H => some (e, T, H)) with
 | none => exact .inl ⟨none, fun F => by rw [hn F, hz]; rfl⟩
 | some p =>
  obtain ⟨e, T, H⟩ := p
  cases e with
  | norm =>
   cases hp : L.tin.pr (kr L.tin.os.length) T H with
   | none => exact .inl ⟨none, fun F => by rw [hn F, hz]; simp only [ae, tS, hp]⟩
   | some q => exact .inr ⟨L.back q.1, fun F => by rw [hn F, hz]; simp only [ae, tS, hp]⟩
  | exit i => exact .inl ⟨_, fun F => by rw [hn F, hz]; rfl⟩
  | goto i => exact .inl ⟨_, fun F => by rw [hn F, hz]; rfl⟩
  | ret => exact .inl ⟨_, fun F => by rw [hn F, hz]; rfl⟩
def In.dels (I : In) (l : List Nat) : In := ⟨fun m => if m ∈ l then none else I.ι m, I.R⟩
theorem HR.del {I : In} {w : World} {H : Heap} (hH : HR I w H) {n sz : Nat} {v : Value} (hn : I.ι n = some (.row sz v)) : HR (I.dels [n]) w (H.sub n .none) := by
 have hi : ∀ m, m ≠ n → (I.dels [n]).ι m = I.ι m := fun m hm => by simp [In.dels, hm]
 have h0 : (I.dels [n]).ι n = none := by simp [In.dels]
 have hf : ∀ {m : Nat} {t : TypeId} {B : Nat → Nat → Prop}, (I.dels [n]).ι m = some (.fam t B) ↔ I.ι m = some (.fam t B) := fun {m t B} => by
  by_cases hm : m = n
  ·subst hm
   rw [h0, hn]
   exact ⟨fun h => (by cases h), fun h => (by cases h)⟩
  ·rw [hi m hm]
 have hb : But n .none I (I.dels [n]) w w := by
  refine ⟨⟨fun _ h => h, fun _ _ => rfl, fun _ _ _ h => h⟩, fun m b h => ?_, fun m sz v hm h => by rw [hi m hm]; exact h, fun s xs h => by cases h⟩
  rw [hi]
  ·exact h
  ·rintro rfl; rw [hn] at h; cases h
 refine HR.of (fun m b hm => ?_) (fun m hm => ?_) (fun m e b hm he => ?_) (fun m m' e e' b hm hm' he he' => ?_) (fun b hR => hH.rlt b hR) (fun m m' t B B' h1 h2 => hH.one m m' t B B' (hf.1 h1) (hf.1 h2))
 ·simp only [Heap.sub] at hm
  split at hm
  ·cases hm
  ·rename_i hmn
   split at hm
   ·rename_i b0 hb0
    simp only [ab] at hm
    subst hm
    cases b0 with
    | obj cs0 =>
     obtain ⟨b, c, t, k1, k2, k3⟩ := hH.obj m cs0 hb0
     exact ⟨b, c, t, hb.obj _ _ k1, k2, CR.sub hb k3⟩
    | row E' s' xs' =>
     obtain ⟨u, cs', k1, k2, k3⟩ := hH.row m E' s' xs' hb0
     exact ⟨u, cs', hb.row _ _ _ hmn k1, k2, Sh.K_keep hb.keeps k3⟩
    | mp ks vs => exact MR.sub hb (hH.mp m ks vs hb0) (fun _ _ => rfl)
    | fam t k xs => exact FamR.keep hb.keeps (fun B hB => ⟨hf.2 hB, rfl⟩) (hH.fam m t k xs hb0) (fun _ _ _ _ => rfl)
   ·cases hm
 ·by_cases hmn : m = n
  ·subst hmn; exact h0
  ·rw [hi m hmn]
   simp only [Heap.sub, hmn, aC] at hm
   split at hm
   ·cases hm
   ·rename_i hb0
    exact hH.dom m hb0
 ·by_cases hmn : m = n
  ·subst hmn; rw [h0] at hm; cases hm
  ·rw [hi m hmn] at hm
   exact hH.lt m e b hm he
 ·by_cases hmn : m = n
  ·subst hmn; rw [h0] at hm; cases hm
  ·by_cases hmn' : m' = n
   ·subst hmn'; rw [h0] at hm'; cases hm'
   ·rw [hi m hmn] at hm
    rw [hi m' hmn'] at hm'
    exact hH.inj m m' e e' b hm hm' he he'
theorem HR.dels : ∀ {l : List Nat} {I : In} {w : World} {H : Heap}, HR I w H → l.Nodup → (∀ n ∈ l, ∃ sz v, I.ι n = some (.row sz v)) → HR (I.dels l) w (dv l H)
 | [], I, w, H, hH, _, _ => by
  have : I.dels [] = I := by simp [In.dels]
  rw [this]
  exact hH
 | n :: l, I, w, H, hH, hd, hr => by
  obtain ⟨sz, v, hn⟩ := hr n (aD ..)
  rw [bp] at hd
  have h1 := HR.dels (l := l) (hH.del hn) hd.2 fun m hm => by
   obtain ⟨sz, v, h⟩ := hr m (az _ hm)
   have : m ≠ n := by rintro rfl; exact hd.1 hm
   exact ⟨sz, v, by simp [In.dels, this, h]⟩
  have : (I.dels [n]).dels l = I.dels (n :: l) := by
   unfold In.dels
   simp only [aB, List.not_mem_nil, or_false, In.mk.injEq, aZ]
   funext m
   by_cases h1 : m ∈ l <;> by_cases h2 : m = n <;> simp [h1, h2]
  rw [this] at h1
  exact h1
theorem fk (ρ : Nam) : ∀ (ks : List IK) (c : Nat) (x : eM ks), (ip ρ c ks x).length = ks.length
 | [], _, _ => rfl
 | .any :: r, c, x => congrArg (· + 1) (fk ρ r (c + 1) x)
 | .val _ :: r, c, x => congrArg (· + 1) (fk ρ r (c + 1) x.2)
 | .row _ _ :: r, c, x => congrArg (· + 1) (fk ρ r (c + 1) x.2)
 | .agf _ _ :: r, c, x => congrArg (· + 1) (fk ρ r (c + 1) x.2)
 | .obj _ :: r, c, x => congrArg (· + 1) (fk ρ r (c + 1) x)
 | .inn _ _ :: r, c, x => congrArg (· + 1) (fk ρ r (c + 1) x)
 | .clo _ _ :: r, c, x => congrArg (· + 1) (fk ρ r (c + 1) x)
 | .tab _ _ :: r, c, x => congrArg (· + 1) (fk ρ r (c + 1) x)
 | .fam _ _ :: r, c, x => congrArg (· + 1) (fk ρ r (c + 1) x.2)
theorem MC {t : Tmpl} {ρ : Nam} {i : Nat} (h : i < t.os.length) : ρ.o i ∈ t.names ρ := by
 have : ∀ (os : List (List IK)) (j i : Nat), i < os.length → ρ.o (j + i) ∈ gb ρ j os := by
  intro os
  induction os with
  | nil => intro j i h; simp at h
  | cons k r ih =>
   intro j i h
   cases i with
   | zero => simp [gb]
   | succ i =>
    simp only [gb, aB, aA]
    exact .inr (.inr (by rw [show j + (i + 1) = j + 1 + i by omega]; exact ih (j + 1) i (by simpa using h)))
 have := this t.os 0 i h
 rw [bw] at this
 exact bG _ this
theorem Ns {t : Tmpl} {m0 m : Met} {I : In} {w : World} {H : Heap} {x : t.Ty} {T : List DV} {vals : Nat → Value} (hH : HR I w H) (h : t.pr m0 T H = some (x, m)) (hV : ∀ i, VR I w (T.getD i .undef) (vals i)) : m0.σ ⊆ m.σ ∧ (∀ e ∈ m.σ, e.1 < t.os.length) ∧ (m.σ.map (·.1)).Nodup := by
 unfold Tmpl.pr at h
 split at h
 ·rename_i x1 m1 h1
  split at h
  ·rename_i y m2 h2
   split at h
   ·rename_i hc
    simp only [ab, ah] at h
    obtain ⟨rfl, rfl⟩ := h
    simp only [aj, aN, av] at hc
    obtain ⟨es, g1, _⟩ := jw (ρ := nam0) (c := 0) hH h1 hV
    obtain ⟨es', k1, _⟩ := CZ (ρ := nam0) hH h2
    exact ⟨fun e he => (g1.trans k1).σ e he, hc.2, nc hc.1.2⟩
   ·cases h
  ·cases h
 ·cases h
theorem AL {n i : Nat} (h : i < n) : (i, i) ∈ (kr n).σ := by
 unfold kr
 exact List.mem_map.2 ⟨i, by simpa using h, rfl⟩
theorem C3 {H : Heap} {b : Nat} {m : Met} {i n : Nat} (hk : (m.σ.map (·.1)).Nodup) (h : (i, n) ∈ m.σ) : (mY H b m).o i = n := by
 have : m.get i = some n := by
  unfold Met.get
  cases hf : m.σ.find? (fun e => e.1 == i) with
  | none => exact absurd (List.find?_eq_none.1 hf (i, n) h) (by simp)
  | some p =>
   have hp := ci hf
   have hpm := cj hf
   simp only [ai] at hp
   have := eU hk hpm h hp
   rw [this]
   rfl
 simp only [mY, this]
theorem vL {I I0 I2 : In} {w w2 : World} {H H2 : Heap} {tin t : Tmpl} {x : tin.Ty} {z : t.Ty} {m m1 : Met} {v0 vals : Nat → Value} {T2 : List DV} {ρ : Nam} (hH : HR I w H) (h0 : Lay I ⟨fun _ => none, I.R⟩ I0 w tin nam0 x m v0 (fun _ => none)) (he : Ext I0 w I2 w2) (hH2 : HR I2 w2 H2) (hpr : t.pr (kr tin.os.length) T2 H2 = some (z, m1)) (hV : ∀ i, VR I2 w2 (T2.getD i .undef) (vals i))
  (hρ : ∀ i n, (i, n) ∈ m.σ → ρ.o i = n) (hfree : t.free ρ ((dv m.u H).away m) = true) :
  ∃ I4, HR I4 w2 (t.H ρ z ((dv m.u H).away m)) ∧ (∀ i, VR I4 w2 ((t.T ρ z).getD i .undef) (vals i)) ∧ Ext I w I4 w2 ∧ (∀ n sz v, n ∉ m.u → I.ι n = some (.row sz v) → I4.ι n = some (.row sz v)) ∧ t.ks.length ≤ T2.length := by
 obtain ⟨p1, p2, p3⟩ := Ns hH2 hpr hV
 have hu0 := (List.nodup_append.1 h0.nd).1
 have hd := hH.dels hu0 h0.rows
 -- what has a name within has one around
 have nm : ∀ n e g, I0.ι n = some e → e.has g → ∃ n' e', I.ι n' = some e' ∧ e'.has g ∧ (n' ∈ m.u ∨ n' ∈ m.σ.map (·.2)) := by
  intro n e g hn hg
  by_cases hm : n ∈ tin.names nam0
  ·exact h0.old n e g hm hn hg
  ·rw [h0.out n hm] at hn
   cases hn
 have dl : ∀ n e, (I.dels m.u).ι n = some e → I.ι n = some e ∧ n ∉ m.u := by
  intro n e hn
  simp only [In.dels] at hn
  split at hn
  ·cases hn
  ·rename_i hnu
   exact ⟨hn, hnu⟩
 have ob : ∀ i n, (i, n) ∈ m.σ → i < tin.os.length ∧ i < t.os.length ∧ (i, i) ∈ m1.σ ∧ ρ.o i = n ∧ ∃ q, I.ι n = some q ∧ ((∀ s B, q ≠ .fam s B) → I2.ι i = some q) := by
  intro i n hin
  have hi := h0.met _ hin
  have hii := p1 (AL hi)
  refine ⟨hi, p2 _ hii, hii, hρ i n hin, ?_⟩
  obtain ⟨n', q, e1, e2, e3, e4⟩ := h0.obj i hi
  have : (i, n') = (i, n) := eU h0.key e1 hin rfl
  simp only [ah, true_and] at this
  subst this
  refine ⟨q, e2, fun hnf => ?_⟩
  cases q with
  | obj b => exact he.obj _ _ e3
  | row sz v => exact absurd rfl (e4 sz v)
  | fam s B => exact absurd rfl (hnf s B)
 have famI : ∀ s n B, I0.ι n = some (.fam s B) → ∃ n1, n1 ∈ m.σ.map (·.2) ∧ I.ι n1 = some (.fam s B) := by
  intro s n B hn
  by_cases hm : n ∈ tin.names nam0
  ·rcases h0.row n _ hm hn with ⟨i, i1, i2, _⟩ | ⟨sz, v, h⟩
   ·obtain ⟨n', q, e1, e2, e3, _⟩ := h0.obj i i1
    rw [← i2, hn] at e3
    simp only [ab] at e3
    subst e3
    exact ⟨n', bf (f := (·.2)) e1, e2⟩
   ·cases h
  ·rw [h0.out n hm] at hn
   cases hn
 have away : ∀ n q, ((dv m.u H).away m) n = some q → (dv m.u H) n = some q ∧ n ∉ m.σ.map (·.2) := by
  intro n q hn
  simp only [Heap.away] at hn
  split at hn
  ·cases hn
  ·rename_i hs
   refine ⟨hn, fun hm => hs ?_⟩
   obtain ⟨e, e1, e2⟩ := List.mem_map.1 hm
   exact List.any_eq_true.2 ⟨e, e1, by simpa using e2⟩
 have awayN : ∀ n, ((dv m.u H).away m) n = none → (dv m.u H) n = none ∨ ∃ i, (i, n) ∈ m.σ := by
  intro n hn
  simp only [Heap.away] at hn
  split at hn
  ·rename_i hs
   obtain ⟨e, e1, e2⟩ := List.any_eq_true.1 hs
   simp only [ai] at e2
   exact .inr ⟨e.1, by rw [← e2]; exact e1⟩
  ·exact .inl hn
 have hnone : ∀ n, n ∈ t.names ρ → ((dv m.u H).away m) n = none := by
  unfold Tmpl.free at hfree
  simp only [aj, aN, Option.isNone_iff_eq_none] at hfree
  exact hfree.2
 have apart : ∀ n e g, (I.dels m.u).ι n = some e → e.has g → n ∉ m.σ.map (·.2) → ∀ n' e', I0.ι n' = some e' → ¬ e'.has g := by
  intro n e g hn hg hns n' e' hn' hg'
  obtain ⟨n2, e2, k1, k2, k3⟩ := nm n' e' g hn' hg'
  obtain ⟨d1, d2⟩ := dl n e hn
  have := hH.inj n n2 e e2 g d1 k1 hg k2
  subst this
  rcases k3 with k3 | k3
  ·exact d2 k3
  ·exact hns k3
 have nsig : ∀ n, n ∉ t.names ρ → n ∉ m.σ.map (·.2) := by
  intro n hn hm
  obtain ⟨⟨i, n'⟩, e1, e2⟩ := List.mem_map.1 hm
  simp only at e2
  subst e2
  obtain ⟨_, i2, _, i4, _⟩ := ob i n' e1
  exact hn (i4 ▸ MC i2)
 have nofam : ∀ n s B, n ∉ t.names ρ → (I.dels m.u).ι n = some (.fam s B) → ∀ n0 B0, I0.ι n0 ≠ some (.fam s B0) := by
  intro n s B hm hn n0 B0 h
  obtain ⟨n1, h1, h2⟩ := famI s n0 B0 h
  have := hH.one n n1 s B B0 (dl n _ hn).1 h2
  subst this
  exact nsig n hm h1
 have hbase : Base I2 (I.dels m.u) w2 t ρ m1 ((dv m.u H).away m) := by
  refine ⟨fun n q hq => ?_, fun n hn hm => ?_, fun n e hm hn hnf => ?_, fun n e g hm hn hg => ?_, fun n n' e e' g _ _ hn hn' hg hg' => hd.inj n n' e e' g hn hn' hg hg', fun g hg => he.ro g (by rw [h0.R]; exact hg), fun n s B hm hn => ?_, fun s i b h => he.fam s i b (by rw [h0.R]; exact h), fun n n' s B B' hm hn hn' _ => ?_, fun n n' s B B' _ _ hn hn' => hd.one n n' s B B' hn hn', fun n e n' e' g hm hn hn' _ hg hg' => ?_⟩
  ·obtain ⟨h1, h2⟩ := away n q hq
   have hs : Same (I.dels m.u) (I.dels m.u) w w2 := by
    refine ⟨⟨fun _ h => h, fun g hg => he.same g (hH.rlt g hg) fun n' e' hn' hg' => ?_, fun _ _ _ h => h⟩, fun _ _ h => h, fun _ _ _ h => h⟩
    obtain ⟨n2, e2, k1, k2, _⟩ := nm n' e' g hn' hg'
    exact (hH.lt n2 e2 g k1 k2).2 hg
   exact (hd.br h1).keep hs (fun _ _ h => ⟨h, rfl⟩) fun e g hn hg => he.same g (hd.lt n e g hn hg).1 (apart n e g hn hg h2)
  ·rcases awayN n hn with h1 | ⟨i, h1⟩
   ·exact hd.dom n h1
   ·exact absurd (bf (f := (·.2)) h1) (nsig n hm)
  ·rcases awayN n (hnone n hm) with h1 | ⟨i, h1⟩
   ·rw [hd.dom n h1] at hn; cases hn
   ·obtain ⟨_, _, i3, i4, q, i5, i6⟩ := ob i n h1
    refine ⟨i, i, i3, i4.symm, ?_⟩
    rw [(dl n e hn).1] at i5
    simp only [ab] at i5
    subst i5
    exact i6 hnf
  ·have h1 := hd.lt n e g hn hg
   refine ⟨bb h1.1 he.size, fun hR => ?_⟩
   rcases he.newR g hR with h2 | ⟨n', e', h2, h3⟩ | h2
   ·rw [h0.R] at h2
    exact h1.2 h2
   ·exact apart n e g hn hg (nsig n hm) n' e' h2 h3
   ·omega
  ·obtain ⟨h1, _⟩ := he.famE s (nofam n s B hm hn)
   rw [h1, h0.R]
   rfl
  ·exact (he.famE s (nofam n s B hm hn)).2 n' B' hn'
  ·have h1 := hd.lt n e g hn hg
   rcases he.own n' e' g hn' hg' with ⟨n2, e2, h2, h3⟩ | h2
   ·exact apart n e g hn hg (nsig n hm) n2 e2 h2 h3
   ·omega
 obtain ⟨⟨I4, hl⟩, hlen, _⟩ := jx hH2 rfl hpr hV hbase hfree
 have keep : ∀ n e, (∀ s B, e ≠ .fam s B) → n ∉ m.u → I.ι n = some e → I4.ι n = some e := fun n e hnf hn h => hl.same n e hnf (by simp only [In.dels, hn, aC]; exact h)
 refine ⟨I4, hl.hr, hl.val, ⟨fun n g hn => ?_, fun g hg => ?_, fun g hg hn => ?_, fun n e g hn hg => ?_, fun g hg => ?_, he.size, he.os, he.tape, he.output, fun s i b h => by rw [hl.R]; exact he.fam s i b (by rw [h0.R]; exact h), fun s hs => ?_⟩, fun n sz v hn h => keep n _ (fun _ _ h => (by cases h)) hn h, hlen⟩
 ·refine keep n _ (fun _ _ h => (by cases h)) (fun hu => ?_) hn
  obtain ⟨sz, v, h1⟩ := h0.rows n hu
  rw [hn] at h1
  cases h1
 ·rw [hl.R]
  exact he.ro g (by rw [h0.R]; exact hg)
 ·refine he.same g hg fun n e hn' he' => ?_
  obtain ⟨n2, e2, k1, k2, _⟩ := nm n e g hn' he'
  exact hn n2 e2 k1 k2
 ·have within : ∀ n' e', I2.ι n' = some e' → e'.has g → (∃ m e', I.ι m = some e' ∧ e'.has g) ∨ w.heap.size ≤ g := by
   intro n' e' h1 h2
   rcases he.own n' e' g h1 h2 with ⟨n2, e2, h3, h4⟩ | h3
   ·obtain ⟨n3, e3, k1, k2, _⟩ := nm n2 e2 g h3 h4
    exact .inl ⟨n3, e3, k1, k2⟩
   ·exact .inr h3
  by_cases hm : n ∈ t.names ρ
  ·obtain ⟨n', e', h1, h2, _⟩ := hl.old n e g hm hn hg
   exact within n' e' h1 h2
  ·rw [hl.out n hm] at hn
   exact .inl ⟨n, e, (dl n e hn).1, hg⟩
 ·rw [hl.R] at hg
  rcases he.newR g hg with h1 | ⟨n, e, h1, h2⟩ | h1
  ·rw [h0.R] at h1
   exact .inl h1
  ·obtain ⟨n3, e3, k1, k2, _⟩ := nm n e g h1 h2
   exact .inr (.inl ⟨n3, e3, k1, k2⟩)
  ·exact .inr (.inr h1)
 ·obtain ⟨h1, h2⟩ := he.famE s fun n0 B0 h => by
   obtain ⟨n1, _, h3⟩ := famI s n0 B0 h
   exact hs n1 B0 h3
  refine ⟨by rw [hl.R, h1, h0.R], fun n B hn => ?_⟩
  by_cases hm : n ∈ t.names ρ
  ·rcases hl.row n _ hm hn with ⟨i, i1, i2, _⟩ | ⟨sz, v, h⟩
   ·obtain ⟨n', q, _, e2, e3, _⟩ := hl.obj i i1
    rw [← i2, hn] at e3
    simp only [ab] at e3
    subst e3
    exact h2 n' B e2
   ·cases h
  ·rw [hl.out n hm] at hn
   exact hs n B (dl n _ hn).1
theorem MD {I0 I1 I2 : In} {w w1 : World} {t : Tmpl} {x z : t.Ty} {m0 m : Met} {v0 vals : Nat → Value} {I : In} (h0 : Lay I ⟨fun _ => none, I.R⟩ I0 w t nam0 x m0 v0 (fun _ => none)) (he : Ext I0 w I1 w1) (hl : Lay I1 ⟨fun _ => none, I1.R⟩ I2 w1 t nam0 z m vals (fun _ => none)) (hm : (kr t.os.length).σ ⊆ m.σ) : Ext I0 w I2 w1 := by
 refine ⟨fun n b hn => ?_, fun g hg => by rw [hl.R]; exact he.ro g hg, he.same, fun n e g hn hg => ?_, fun g hg => by rw [hl.R] at hg; exact he.newR g hg, he.size, he.os, he.tape, he.output, fun s i b h => by rw [hl.R]; exact he.fam s i b h, fun s hs => ?_⟩
 ·by_cases hnm : n ∈ t.names nam0
  ·rcases h0.row n _ hnm hn with ⟨i, hi, hni, _⟩ | ⟨sz, v, e1⟩
   ·have hni' : n = i := hni
    subst hni'
    have h1 := he.obj _ _ hn
    obtain ⟨n', b2, e2, e3, e4, _⟩ := hl.obj n hi
    have : (n, n') = (n, n) := eU hl.key e2 (hm (AL hi)) rfl
    simp only [ah, true_and] at this
    subst this
    rw [h1] at e3
    simp only [ab] at e3
    subst e3
    exact e4
   ·cases e1
  ·rw [h0.out n hnm] at hn
   cases hn
 ·by_cases hnm : n ∈ t.names nam0
  ·obtain ⟨n', e', h1, h2, _⟩ := hl.old n e g hnm hn hg
   exact he.own n' e' g h1 h2
  ·rw [hl.out n hnm] at hn
   cases hn
 ·obtain ⟨h1, h2⟩ := he.famE s hs
  refine ⟨by rw [hl.R]; exact h1, fun n B hn => ?_⟩
  by_cases hnm : n ∈ t.names nam0
  ·rcases hl.row n _ hnm hn with ⟨i, i1, i2, _⟩ | ⟨sz, v, h⟩
   ·obtain ⟨n', q, _, e2, e3, _⟩ := hl.obj i i1
    rw [← i2, hn] at e3
    simp only [ab] at e3
    subst e3
    exact h2 n' B e2
   ·cases h
  ·rw [hl.out n hnm] at hn
   cases hn
theorem ne {I2 : In} {w : World} {t : Tmpl} {x : t.Ty} {ρ : Nam} {a : Act} (hv : ∀ i, VR I2 w ((t.T ρ x).getD i .undef) (a.tmps.getD i undef)) (hl : t.ks.length ≤ a.tmps.size) (hd : a.defers = []) : TR I2 w (t.T ρ x) a :=
 ⟨by unfold Tmpl.T; rw [fk]; exact hl, hv, hd⟩
theorem Nt {cx : Cx} {fuel f d : Nat} {L : Loop} {c : Code} {step : (L.X → Option L.R) → L.X → Option L.R} (hg : Good cx) (hsub : ∀ id L', cx.loops f id = some L' → ∀ c', (id, c') ∈ eF c → LoopOk cx.P L' c') (heq : RoundEq cx fuel f d L c step) (hfn : ∀ x y, L.fn x = some y → ∃ n, it step n x = some y) (hib : ∀ y, L.into (L.back y) = y) (hoi : ∀ o, L.out (L.inn o) = o)
  (hnam : L.tin.free nam0 (fun _ => none) = true) : LoopOk cx.P L (.loop c) := by
 refine yN ?_
 intro α I w T a H b k r hT hH h
 unfold tp at h
 split at h
 ·rename_i x m hx
  obtain ⟨y, hy, hout⟩ := Option.bind_eq_some_iff.1 h
  obtain ⟨n, hn⟩ := hfn _ _ hy
  obtain ⟨⟨I0, hL0⟩, hlen, _⟩ := jx (ρ := nam0) hH rfl hx hT.val (gW I w L.tin nam0 m) hnam
  refine tM (n := n) (fun n a' w' => ∃ I' X, Ext I0 w I' w' ∧ HR I' w' (L.tin.H nam0 (L.into X) fun _ => none) ∧ TR I' w' (L.tin.T nam0 (L.into X)) a' ∧ it step n X = some y) ?_ ?_ ?_
  ·refine ⟨I0, L.back x, Ext.refl I0 w, by rw [hib]; exact hL0.hr, ?_, hn⟩
   rw [hib]
   exact ne hL0.val (aT hlen hT.len) hT.df
  ·rintro a w ⟨I', X, _, _, _, h⟩
   cases h
  ·rintro n a1 w1 ⟨I1, X, he1, hH1, hT1, h1⟩
   have h2 := (heq (it step n) X).trans h1
   refine Code.wp_mono ?_ (tN hg (iE hg fuel (d + 1)) c hsub hT1 hH1 h2)
   rintro e a2 w2 ⟨I2, T2, H2, ex, hex, he2, hH2, hT2, h3⟩
   have he := he1.trans he2
   have out : pl L.tin.os.length ex T2 H2 L.outs L.inn = some y → PostC I w k r e a2 w2 := by
    intro hxk
    obtain ⟨t, z, m1, o, hz, hyo, hK⟩ := nT hxk
    rw [hyo, hoi, hK] at hout
    simp only at hout
    split at hout
    ·rename_i hfree
     obtain ⟨I4, g1, g2, g3, _, g4⟩ := vL hH hL0 he hH2 hz hT2.val (fun i n hin => C3 hL0.key hin) hfree
     exact ⟨I4, _, _, ex, hex, g3, g1, ne g2 (aT g4 hT2.len) hT2.df, hout⟩
    ·cases hout
   cases ex with
   | norm =>
    cases e <;> first | exact hex.elim | skip
    simp only [tS] at h3
    split at h3
    ·rename_i z m1 hz
     obtain ⟨⟨I3, hL3⟩, hlen3, hm3⟩ := jx (ρ := nam0) hH2 rfl hz hT2.val (gW I2 w2 L.tin nam0 m1) hnam
     refine ⟨I3, L.back z, MD hL0 he hL3 hm3, by rw [hib]; exact hL3.hr, ?_, h3⟩
     rw [hib]
     exact ne hL3.val (aT hlen3 hT2.len) hT2.df
    ·cases h3
   | exit i =>
    have := out h3
    cases e <;> first | exact hex.elim | exact this
   | goto i =>
    have := out h3
    cases e <;> first | exact hex.elim | exact this
   | ret =>
    have := out h3
    cases e <;> first | exact hex.elim | exact this
 ·cases h
def L8 (L : Loop) : Ex → List DV → Heap → Option L.R := fun e T H => pl L.tin.os.length e T H L.outs L.inn
theorem Nu {cx : Cx} {fuel f d : Nat} {L : Loop} {c : Code} (hg : Good cx) (hsub : ∀ id L', cx.loops f id = some L' → ∀ c', (id, c') ∈ eF c → LoopOk cx.P L' c') (heq : ∀ x, dW cx (fe cx fuel (d + 1)) f d c (L.tin.T nam0 (L.into x)) (L.tin.H nam0 (L.into x) fun _ => none) (L8 L) = L.fn x) (hib : ∀ y, L.into (L.back y) = y) (hoi : ∀ o, L.out (L.inn o) = o)
  (hnam : L.tin.free nam0 (fun _ => none) = true) : LoopOk cx.P L c := by
 refine yN ?_
 intro α I w T a H b k r hT hH h
 unfold tp at h
 split at h
 ·rename_i x m hx
  obtain ⟨y, hy, hout⟩ := Option.bind_eq_some_iff.1 h
  obtain ⟨⟨I0, hL0⟩, hlen, _⟩ := jx (ρ := nam0) hH rfl hx hT.val (gW I w L.tin nam0 m) hnam
  have hT1 : TR I0 w (L.tin.T nam0 (L.into (L.back x))) a := by
   rw [hib]
   exact ne hL0.val (aT hlen hT.len) hT.df
  have hH1 : HR I0 w (L.tin.H nam0 (L.into (L.back x)) fun _ => none) := by rw [hib]; exact hL0.hr
  refine Code.wp_mono ?_ (tN hg (iE hg fuel (d + 1)) c hsub hT1 hH1 ((heq _).trans hy))
  rintro e a2 w2 ⟨I2, T2, H2, ex, hex, he, hH2, hT2, hxk⟩
  obtain ⟨t, z, m1, o, hz, hyo, hK⟩ := nT hxk
  rw [hyo, hoi, hK] at hout
  simp only at hout
  split at hout
  ·rename_i hfree
   obtain ⟨I4, g1, g2, g3, _, g4⟩ := vL hH hL0 he hH2 hz hT2.val (fun i n hin => C3 hL0.key hin) hfree
   exact ⟨I4, _, _, ex, hex, g3, g1, ne g2 (aT g4 hT2.len) hT2.df, hout⟩
  ·cases hout
 ·cases h
def Ch : Nat → DV → Option (List DV)
 | 1, v => some [v]
 | n, .tup l => if l.length = n then some l else none
 | _, _ => none
def Gt (S : FS) : DV → Heap → Option S.R := fun v H => match Ch S.tout.ks.length v with
 | some l => match (if gh S.tout.ks = true then kc l [] H else (l, [], H)) with
  | (l, _, H) => match S.tout.pr (kr S.tin.os.length) l H with
   | some (z, _) => some (S.inn z)
   | none => none
 | none => none
def dy (cx : Cx) (fuel f d : Nat) (S : FS) : Prop := ∀ x, jc cx (fe cx fuel (d + 1)) f d (S.tin.T nam0 x) (S.tin.H nam0 x fun _ => none) (Gt S) = S.fn x
theorem rF {I : In} {w : World} {n : Nat} {v : DV} {u : Value} {l : List DV} (hv : VR I w v u) (h : Ch n v = some l) : ∃ us : List Value, us.length = n ∧ LR I w l us ∧ (∀ {I' : In} {l' : List DV}, LR I' w l' us → VR I' w (gV l') u) := by
 unfold Ch at h
 split at h
 ·simp only [ab] at h
  subst h
  refine ⟨[u], rfl, .cons _ _ _ _ hv .nil, fun {I' l'} hl => ?_⟩
  cases hl with | cons d r _ _ hd hr => cases hr; exact hd
 ·rename_i l0 hn
  split at h
  ·rename_i hlen
   simp only [ab] at h
   subst h
   cases hv with | tup _ vs hl =>
   refine ⟨vs.toList, by rw [← hlen, hl.length], hl, fun {I' l'} hl' => ?_⟩
   have h1 := hl'.length
   have h2 := hl.length
   cases l' with
   | nil => exact .tup _ vs hl'
   | cons d r => cases r with
    | nil =>
     exfalso
     apply hn
     rw [← hlen, h2, ← h1]
     rfl
    | cons d' r' => exact .tup _ vs hl'
  ·cases h
 ·cases h
theorem LR.of {I : In} {w : World} : ∀ {l : List DV} {us : List Value}, l.length = us.length → (∀ i, VR I w (l.getD i .undef) (us.getD i undef)) → LR I w l us
 | [], [], _, _ => .nil
 | [], u :: us, h, _ => by simp at h
 | d :: l, [], h, _ => by simp at h
 | d :: l, u :: us, h, hv => .cons _ _ _ _ (hv 0) (LR.of (by simpa using h) (fun i => by simpa using hv (i + 1)))
theorem H6 {cx : Cx} {fuel f d : Nat} {S : FS} (hg : Good cx) (heq : dy cx fuel f d S) (hoi : ∀ o, S.out (S.inn o) = o) (hnam : S.tin.free nam0 (fun _ => none) = true) : iu cx.P f S := by
 intro α I w H A args ρ k r x m hH hA hx hρ h
 obtain ⟨y, hy, hk⟩ := Option.bind_eq_some_iff.1 h
 obtain ⟨⟨I0, hL0⟩, hlen, _⟩ := jx (ρ := nam0) hH rfl hx (vals := fun i => args.getD i undef) (fun i => hA.getD i) (gW I w S.tin nam0 m) hnam
 have hle : (S.tin.T nam0 x).length ≤ args.length := by
  unfold Tmpl.T
  rw [fk, ← hA.length]
  exact hlen
 have hb := (heq x).trans hy
 refine Calls.mono (oC hg (iE hg fuel (d + 1)) hL0.hr hle hL0.val hb) ?_
 rintro e w' he
 cases e with
 | returned z =>
  obtain ⟨I', v, H', h1, h2, h3, h4⟩ := he
  unfold Gt at h1
  split at h1
  ·rename_i l hl
   split at h1
   rename_i A1 T1 H1 hs
   obtain ⟨us, u1, u2', u3⟩ := rF h4 hl
   obtain ⟨I1, h3', h2', u2⟩ : ∃ I1, HR I1 w' H1 ∧ Ext I' w' I1 w' ∧ LR I1 w' A1 us := by
    split at hs
    ·obtain ⟨I1, q1, q2, _, q4⟩ := jt (a := ⟨#[], []⟩) h3 ⟨ak _, fun i => .undef _, rfl⟩ u2' hs
     exact ⟨I1, q1, q2, q4⟩
    ·simp only [ah] at hs
     obtain ⟨rfl, rfl, rfl⟩ := hs
     exact ⟨I', h3, Ext.refl _ _, u2'⟩
   split at h1
   ·rename_i zz m1 hz
    simp only [ab] at h1
    rw [← h1, hoi] at hk
    split at hk
    ·rename_i hfree
     obtain ⟨I4, g1, g2, g3, g4, g5⟩ := vL hH hL0 (h2.trans h2') h3' hz (vals := fun i => us.getD i undef) (fun i => u2.getD i) hρ hfree
     refine ⟨I4, _, _, _, hk, g3, g1, u3 (LR.of ?_ g2), fun l hl n sz v hn hi => ?_⟩
     ·unfold Tmpl.T
      rw [fk, u1]
     ·simp only [ab] at hl
      subst hl
      exact g4 n sz v hn hi
    ·cases hk
   ·cases h1
  ·cases h1
 | _ => exact he.elim
theorem mj : ∀ {ks : List IK} {H : Heap} {T : List DV} {m m' : Met} {x : eM ks}, gh ks = true → dZ H ks T m = some (x, m') → m' = m ∧ ∀ H', dZ H' ks T m = some (x, m)
 | [], H, T, m, m', x, hp, h => by
  cases T with
  | cons d r => simp only [dZ] at h; cases h
  | nil =>
  simp only [dZ, ab, ah] at h
  exact ⟨h.2.symm, fun H' => rfl⟩
 | .any :: r, H, T, m, m', x, hp, h => by
  simp only [dZ] at h ⊢
  split at h
  ·exact mj hp h
  ·cases h
 | .val s :: r, H, T, m, m', x, hp, h => by
  simp only [dZ] at h ⊢
  split at h
  ·split at h
   ·rename_i y hy
    split at h
    ·rename_i z m1 hz
     simp only [ab, ah] at h
     obtain ⟨rfl, rfl⟩ := h
     obtain ⟨h1, h2⟩ := mj (ks := r) hp hz
     exact ⟨h1, fun H' => by simp only [hy, h2 H']⟩
    ·cases h
   ·cases h
  ·cases h
 | .agf s F :: r, H, T, m, m', x, hp, h => by
  simp only [dZ] at h ⊢
  split at h
  ·split at h
   ·rename_i y F' hy
    split at h
    ·rename_i hF
     split at h
     ·rename_i z m1 hz
      simp only [ab, ah] at h
      obtain ⟨rfl, rfl⟩ := h
      obtain ⟨h1, h2⟩ := mj (ks := r) hp hz
      exact ⟨h1, fun H' => by simp only [hy, hF, if_true, h2 H']⟩
     ·cases h
    ·cases h
   ·cases h
  ·cases h
 | .row E s :: r, H, T, m, m', x, hp, h => by cases hp
 | .obj i :: r, H, T, m, m', x, hp, h => by cases hp
 | .inn i o :: r, H, T, m, m', x, hp, h => by cases hp
 | .clo F [] :: r, H, T, m, m', x, hp, h => by
  simp only [dZ] at h ⊢
  split at h
  ·split at h
   ·rename_i hF
    split at h
    ·rename_i m1 hm
     have hm' := hm
     simp only [pZ] at hm
     split at hm
     ·simp only [ab] at hm
      subst hm
      obtain ⟨h1, h2⟩ := mj (ks := r) hp h
      exact ⟨h1, fun H' => by simp only [hF, if_true, hm', h2 H']⟩
     ·cases hm
    ·cases h
   ·cases h
  ·cases h
 | .clo F (i :: is) :: r, H, T, m, m', x, hp, h => by cases hp
 | .tab ks vs :: r, H, T, m, m', x, hp, h => by cases h
theorem ml {ρ ρ' : Nam} : ∀ {ks : List IK} {c c' : Nat} {x : eM ks}, gh ks = true → ip ρ c ks x = ip ρ' c' ks x
 | [], _, _, _, _ => rfl
 | .any :: r, c, c', x, hp => by simp only [ip]; rw [ml (ρ' := ρ') (c' := c' + 1) (ks := r) hp]
 | .val s :: r, c, c', x, hp => by simp only [ip]; rw [ml (ρ' := ρ') (c' := c' + 1) (ks := r) hp]
 | .agf s F :: r, c, c', x, hp => by simp only [ip]; rw [ml (ρ' := ρ') (c' := c' + 1) (ks := r) hp]
 | .row E s :: r, c, c', x, hp => by cases hp
 | .obj i :: r, c, c', x, hp => by cases hp
 | .inn i o :: r, c, c', x, hp => by cases hp
 | .clo F [] :: r, c, c', x, hp => by simp only [ip]; rw [ml (ρ' := ρ') (c' := c' + 1) (ks := r) hp]; rfl
 | .clo F (i :: is) :: r, c, c', x, hp => by cases hp
 | .tab _ _ :: r, c, c', x, hp => by simp only [ip]; rw [ml (ρ' := ρ') (c' := c' + 1) (ks := r) hp]
theorem iK {ρ : Nam} : ∀ {ks : List IK} {c : Nat} {x : eM ks} {H : Heap}, gh ks = true → el ρ c ks x H = H ∧ de ρ c ks = []
 | [], _, _, _, _ => ⟨rfl, rfl⟩
 | .any :: r, c, x, H, hp => by simp only [el, de]; exact iK (ks := r) hp
 | .val s :: r, c, x, H, hp => by simp only [el, de]; exact iK (ks := r) hp
 | .agf s F :: r, c, x, H, hp => by simp only [el, de]; exact iK (ks := r) hp
 | .row E s :: r, c, x, H, hp => by cases hp
 | .obj i :: r, c, x, H, hp => by cases hp
 | .inn i o :: r, c, x, H, hp => by cases hp
 | .clo F [] :: r, c, x, H, hp => by simp only [el, de]; exact iK (ks := r) hp
 | .clo F (i :: is) :: r, c, x, H, hp => by cases hp
 | .tab _ _ :: r, c, x, H, hp => by simp only [el, de]; exact iK (ks := r) hp
theorem Sh.same_self : ∀ s : Sh, s.same s = some ⟨rfl⟩
 | .int k => by simp [Sh.same]
 | .bool => rfl
 | .str => rfl
 | .pair a b => by simp [Sh.same, same_self a, same_self b]
 | .sl e => by simp [Sh.same, same_self e]
 | .fp t => by simp [Sh.same]
 | .arr n e => by simp [Sh.same, same_self e]
theorem Sh.dec_enc : ∀ (s : Sh) (x : s.T) (r : List DV), s.dec (s.enc x ++ r) = some (x, r)
 | .int k, x, r => by simp [Sh.enc, Sh.dec]
 | .bool, x, r => by simp [Sh.enc, Sh.dec]
 | .str, x, r => by simp [Sh.enc, Sh.dec]
 | .pair a b, x, r => by simp only [Sh.enc, Sh.dec, aI, dec_enc a, dec_enc b]
 | .sl e, x, r => by simp [Sh.enc, Sh.dec, Sh.same_self]
 | .fp t, x, r => by simp [Sh.enc, Sh.dec]
 | .arr n e, x, r => by simp [Sh.enc, Sh.dec, Sh.same_self]
theorem H7 (s : Sh) (x : s.T) : ym s (s.val x) = some x := by
 have h := Sh.dec_enc s x []
 rw [aG] at h
 unfold ym Sh.val
 split
 ·simp only [h]
 ·rename_i hm
  have : s.enc x = [((s.enc x).head?).getD .undef] := by
   cases s <;> first | rfl | exact absurd rfl hm
  rw [← this, h]
theorem nf {ρ : Nam} : ∀ {ks : List IK} {H H' : Heap} {T : List DV} {m m' : Met} {x : eM ks} {c : Nat}, gh ks = true → dZ H ks T m = some (x, m') → dZ H' ks (ip ρ c ks x) m = some (x, m)
 | [], H, H', T, m, m', x, c, hp, h => rfl
 | .any :: r, H, H', T, m, m', x, c, hp, h => by
  simp only [dZ, ip] at h ⊢
  split at h
  ·exact nf (ks := r) hp h
  ·cases h
 | .val s :: r, H, H', T, m, m', x, c, hp, h => by
  simp only [dZ, ip] at h ⊢
  split at h
  ·split at h
   ·rename_i y hy
    split at h
    ·rename_i z m1 hz
     simp only [ab, ah] at h
     obtain ⟨rfl, rfl⟩ := h
     simp only [H7, nf (ks := r) (H' := H') (c := c + 1) hp hz]
    ·cases h
   ·cases h
  ·cases h
 | .agf s F :: r, H, H', T, m, m', x, c, hp, h => by
  simp only [dZ, ip] at h ⊢
  split at h
  ·split at h
   ·split at h
    ·split at h
     ·rename_i z m1 hz
      simp only [ab, ah] at h
      obtain ⟨rfl, rfl⟩ := h
      simp only [Sh.dec_enc, if_true, nf (ks := r) (H' := H') (c := c + 1) hp hz]
     ·cases h
    ·cases h
   ·cases h
  ·cases h
 | .row E s :: r, H, H', T, m, m', x, c, hp, h => by cases hp
 | .obj i :: r, H, H', T, m, m', x, c, hp, h => by cases hp
 | .inn i o :: r, H, H', T, m, m', x, c, hp, h => by cases hp
 | .clo F [] :: r, H, H', T, m, m', x, c, hp, h => by
  simp only [dZ, ip] at h ⊢
  split at h
  ·split at h
   ·split at h
    ·rename_i m1 hm
     simp only [pZ] at hm
     split at hm
     ·simp only [ab] at hm
      subst hm
      simp only [List.map_nil, if_true, pZ, List.isEmpty_nil, nf (ks := r) (H' := H') (c := c + 1) hp h]
     ·cases hm
    ·cases h
   ·cases h
  ·cases h
 | .clo F (i :: is) :: r, H, H', T, m, m', x, c, hp, h => by cases hp
 | .tab ks vs :: r, H, H', T, m, m', x, c, hp, h => by cases h
theorem oE {H : Heap} : ∀ {ks : List IK} {T : List DV} {m : Met} {p : eM ks × Met}, gh ks = true → dZ H ks T m = some p → T.length = ks.length
 | [], [], m, p, hp, h => rfl
 | [], d :: T, m, p, hp, h => by cases h
 | .any :: r, T, m, p, hp, h => by
  simp only [dZ] at h
  split at h
  ·simp [oE (ks := r) hp h]
  ·cases h
 | .val s :: r, T, m, p, hp, h => by
  simp only [dZ] at h
  split at h
  ·split at h
   ·split at h
    ·rename_i hz
     simp [oE (ks := r) hp hz]
    ·cases h
   ·cases h
  ·cases h
 | .agf s F :: r, T, m, p, hp, h => by
  simp only [dZ] at h
  split at h
  ·split at h
   ·split at h
    ·split at h
     ·rename_i hz
      simp [oE (ks := r) hp hz]
     ·cases h
    ·cases h
   ·cases h
  ·cases h
 | .row E s :: r, T, m, p, hp, h => by cases hp
 | .obj i :: r, T, m, p, hp, h => by cases hp
 | .inn i o :: r, T, m, p, hp, h => by cases hp
 | .clo F [] :: r, T, m, p, hp, h => by
  simp only [dZ] at h
  split at h
  ·split at h
   ·split at h
    ·simp [oE (ks := r) hp h]
    ·cases h
   ·cases h
  ·cases h
 | .clo F (i :: is) :: r, T, m, p, hp, h => by cases hp
 | .tab ks vs :: r, T, m, p, hp, h => by cases h
theorem Gu {I I0 I' : In} {w w' : World} {d : DV} {z : Value} (hR : I0.R = I.R) (h0 : ∀ n, I0.ι n = none) (he : Ext I0 w I' w') (hH : HR I' w' fun _ => none) (h : VR I' w' d z) : VR (I.grow w w') w' d z := by
 have hn : ∀ n, I'.ι n = none := fun n => hH.dom n rfl
 refine VR.keep ⟨⟨fun b hb => ?_, fun _ _ => rfl, fun t i b hb => ?_⟩, fun n b h => by rw [hn] at h; (cases h), fun n sz v h => by rw [hn] at h; (cases h)⟩ h
 rcases he.newR b hb with h1 | ⟨m, e, h1, _⟩ | h1
 ·exact .inl (hR ▸ h1)
 ·rw [h0] at h1; cases h1
 ·exact .inr ⟨h1, hH.rlt b hb⟩
 ·rw [(he.famE t fun n B h => by rw [h0] at h; cases h).1, hR] at hb
  exact hb
theorem GrowW.of {I0 I' : In} {w w' : World} (h0 : ∀ n, I0.ι n = none) (he : Ext I0 w I' w') : GrowW w w' :=
 ⟨he.size, fun b hb => he.same b hb fun n e h => by rw [h0] at h; (cases h), he.os, he.tape, he.output⟩
theorem Nv {P : Program} {f : FuncId} {S : FS} (h : iu P f S) (hp : FS.pure S = true) : tF P f S := by
 intro I w H A args X m Y hH hA hX hY
 obtain ⟨⟨ks, os⟩, ⟨oks, oos⟩, R, out, inn, fn⟩ := S
 simp only [FS.pure, aj, List.isEmpty_iff] at hp
 obtain ⟨⟨⟨p1, p2⟩, p3⟩, p4⟩ := hp
 subst p2 p4
 have hpr : m = ⟨[], []⟩ ∧ Tmpl.pr ⟨ks, []⟩ ⟨[], []⟩ A H = some (X, m) ∧ A.length = ks.length ∧ Tmpl.pr ⟨ks, []⟩ ⟨[], []⟩ (Tmpl.T ⟨ks, []⟩ nam0 X) (fun _ => none) = some (X, ⟨[], []⟩) := by
  unfold Tmpl.pr at hX ⊢
  split at hX
  ·rename_i x m1 hx
   obtain ⟨rfl, h2⟩ := mj p1 hx
   simp only [om] at hX
   split at hX
   ·rename_i hc
    simp only [ab, ah] at hX
    obtain ⟨rfl, rfl⟩ := hX
    refine ⟨rfl, ?_, oE p1 hx, ?_⟩
    ·simp only [h2 H, om]
     rw [if_pos hc]
    ·unfold Tmpl.T
     simp only [nf (H' := fun _ => none) (ρ := nam0) (c := 0) p1 hx, om]
     rw [if_pos hc]
   ·cases hX
  ·cases hX
 obtain ⟨rfl, hpr, hlA, hagain⟩ := hpr
 have hnames : ∀ (t : List IK) (y : eM t) (ρ : Nam), gh t = true → Tmpl.names ⟨t, []⟩ ρ = [] := by
  intro t y ρ hp
  unfold Tmpl.names
  simp only [gb, aG]
  exact (iK (ρ := ρ) (c := 0) (x := y) (H := H) hp).2
 have hfree : ∀ (t : List IK) (y : eM t) (ρ : Nam) (H : Heap), gh t = true → Tmpl.free ⟨t, []⟩ ρ H = true := by
  intro t y ρ H hp
  unfold Tmpl.free
  rw [hnames t y ρ hp]
  rfl
 obtain ⟨⟨I0, hL0⟩, hlen, _⟩ := jx (ρ := nam0) hH rfl hpr (vals := fun i => args.getD i undef) (fun i => hA.getD i) (gW I w ⟨ks, []⟩ nam0 ⟨[], []⟩) (hfree ks X.1 nam0 _ p1)
 have hHn : ∀ (t : List IK) (y : eM t × ol []) (ρ : Nam) (H0 : Heap), gh t = true → Tmpl.H ⟨t, []⟩ ρ y H0 = H0 := fun t y ρ H0 hp => by
  unfold Tmpl.H
  simp only [sG]
  exact (iK hp).1
 have hH0 : HR I0 w fun _ => none := by
  have := hL0.hr
  rw [hHn ks X nam0 _ p1] at this
  exact this
 have hι : ∀ n, I0.ι n = none := fun n => hH0.dom n rfl
 have hT0 : (Tmpl.T ⟨ks, []⟩ nam0 X).length = ks.length := by unfold Tmpl.T; rw [fk]
 have hA0 : LR I0 w (Tmpl.T ⟨ks, []⟩ nam0 X) args := LR.of (by rw [hT0, ← hlA, hA.length]) hL0.val
 refine Calls.mono (h (ρ := nam0) (k := fun v H u => some (v, H, u)) hH0 hA0 hagain (fun i n h => by cases h) (by have hY' : fn X = some Y := hY; simp only [hY', ae]; exact if_pos (hfree oks (out Y).1 _ _ p3))) ?_
 rintro e w' he
 cases e with
 | returned z =>
  obtain ⟨I', v, H', u, h1, h2, h3, h4, h5⟩ := he
  simp only [ab, ah] at h1
  obtain ⟨rfl, rfl, rfl⟩ := h1
  have h3' : HR I' w' fun _ => none := by
   have e1 : (dv [] (fun _ => none)).away ⟨[], []⟩ = (fun _ => none) := rfl
   have e2 := hHn oks (out Y) nam0 (fun _ => none) p3
   have h3' : HR I' w' (Tmpl.H ⟨oks, []⟩ nam0 (out Y) ((dv [] (fun _ => none)).away ⟨[], []⟩)) := h3
   rw [e1, e2] at h3'
   exact h3'
  exact ⟨GrowW.of hι h2, Gu hL0.R hι h2 h3' h4⟩
 | _ => exact he.elim
def Cx.addSpec (cx : Cx) (f : FuncId) (S : FS) : Cx := ⟨cx.P, cx.loops, fun g => if Nat.beq g f then S :: cx.specs g else cx.specs g, cx.tabs, cx.qs, cx.qr⟩
def Cx.addLoop (cx : Cx) (f : FuncId) (id : Nat) (L : Loop) : Cx := ⟨cx.P, fun g i => if Nat.beq g f && Nat.beq i id then some L else cx.loops g i, cx.specs, cx.tabs, cx.qs, cx.qr⟩
def Cx.bare (cx : Cx) : Cx := ⟨cx.P, fun _ _ => none, cx.specs, cx.tabs, cx.qs, cx.qr⟩
def Qm (P : Program) : Cx := ⟨P, fun _ _ => none, fun _ => [], fun _ => none, fun _ => [], fun _ => []⟩
theorem Gv (P : Program) : Good (Qm P) := ⟨fun f S h => (by cases h), fun f id L h => (by cases h), fun f S h => (by cases h), fun f t h => (by cases h), fun f S h => (by cases h), fun f S h => (by cases h)⟩
theorem Good.bare {cx : Cx} (h : Good cx) : Good cx.bare := ⟨h.specs, fun f id L hl => (by cases hl), h.pures, h.tabs, h.qs, h.qr⟩
theorem Good.addSpec {cx : Cx} (h : Good cx) {f : FuncId} {S : FS} (hS : iu cx.P f S) : Good (cx.addSpec f S) := by
 have key : ∀ g S', S' ∈ (cx.addSpec f S).specs g → S' ∈ cx.specs g ∨ (g = f ∧ S' = S) := by
  intro g S' hm
  simp only [Cx.addSpec] at hm
  split at hm
  ·rename_i hg
   rcases aB.1 hm with rfl | hm
   ·exact .inr ⟨bO hg, rfl⟩
   ·exact .inl hm
  ·exact .inl hm
 refine ⟨fun g S' hm => ?_, h.loops, fun g S' hm hp => ?_, h.tabs, h.qs, h.qr⟩
 ·rcases key g S' hm with hm | ⟨rfl, rfl⟩
  ·exact h.specs g S' hm
  ·exact hS
 ·rcases key g S' hm with hm | ⟨rfl, rfl⟩
  ·exact h.pures g S' hm hp
  ·exact Nv hS hp
def iv (P : Program) (f : FuncId) (id : Nat) : List Code := match P.funcs[f]? with
 | some fn => match fn.body with
  | some c => (eF c).filterMap fun p => if Nat.beq p.1 id then some p.2 else none
  | none => []
 | none => []
theorem EN : ∀ {c c' : Code} {id : Nat} {p : Nat × Code}, (id, c') ∈ eF c → p ∈ eF c' → p ∈ eF c := by
 intro c
 induction c with
 | seq a b iha ihb =>
  intro c' id p h h2
  simp only [eF, aA, aB, ah] at h ⊢
  rcases h with ⟨rfl, rfl⟩ | h | h
  ·exact .inr (.inl h2)
  ·exact .inr (.inl (iha h h2))
  ·exact .inr (.inr (ihb h h2))
 | cond c a b iha ihb =>
  intro c' id p h h2
  simp only [eF, aA] at h ⊢
  exact h.imp (fun h => iha h h2) (fun h => ihb h h2)
 | block id c ih => intro c' id p h h2; exact ih h h2
 | scope c ih => intro c' id p h h2; exact ih h h2
 | loop c ih =>
  intro c' id p h h2
  simp only [eF, aB, ah] at h
  rcases h with ⟨rfl, rfl⟩ | h
  ·exact h2
  ·simp only [eF, aB]
   exact .inr (ih h h2)
 | _ => intro c' id p h; simp [eF] at h
theorem EO {P : Program} {f : FuncId} {id : Nat} {c0 : Code} (h : c0 ∈ iv P f id) : ∃ fn c, P.funcs[f]? = some fn ∧ fn.body = some c ∧ (id, c0) ∈ eF c := by
 unfold iv at h
 split at h
 ·rename_i fn hf
  split at h
  ·rename_i c hb
   obtain ⟨⟨i, c'⟩, h1, h2⟩ := List.mem_filterMap.1 h
   split at h2
   ·rename_i hi
    simp only [ab] at h2
    subst h2
    have := bO hi
    simp only at this
    subst this
    exact ⟨fn, c, hf, hb, h1⟩
   ·cases h2
  ·cases h
 ·cases h
theorem Good.addLoop {cx : Cx} (h : Good cx) {f : FuncId} {id : Nat} {L : Loop} {c0 : Code} (h1 : iv cx.P f id = [c0]) (hL : LoopOk cx.P L c0) : Good (cx.addLoop f id L) := by
 refine ⟨h.specs, fun g i L' hl fn c c' hf hb hc => ?_, h.pures, h.tabs, h.qs, h.qr⟩
 simp only [Cx.addLoop] at hl
 split at hl
 ·rename_i hg
  simp only [aj] at hg
  have e1 := bO hg.1
  have e2 := bO hg.2
  subst e1 e2
  simp only [ab] at hl
  subst hl
  have hf' : cx.P.funcs[g]? = some fn := hf
  have : c' ∈ iv cx.P g i := by
   unfold iv
   rw [hf']
   simp only [hb]
   rw [List.mem_filterMap]
   exact ⟨(i, c'), hc, by simp⟩
  rw [h1] at this
  simp only [ao] at this
  subst this
  intro α I w T a H b k r hT hH hh
  exact hL hT hH hh
 ·exact h.loops g i L' hl fn c c' hf hb hc
theorem Good.sub {cx : Cx} (h : Good cx) {f : FuncId} {id : Nat} {c0 : Code} (hm : c0 ∈ iv cx.P f id) : ∀ i L', cx.loops f i = some L' → ∀ c', (i, c') ∈ eF c0 → LoopOk cx.P L' c' := by
 obtain ⟨fn, c, hf, hb, hc⟩ := EO hm
 intro i L' hl c' hc'
 intro α I w T a H b k r hT hH hh
 exact h.loops f i L' hl fn c c' hf hb (EN hc hc') hT hH hh
def dL (cx : Cx) (fuel f d id : Nat) (L : Loop) (F : L.X → Option L.R) (x : L.X) : Option L.R := match iv cx.P f id with
 | [.loop c] => dW cx (fe cx fuel (d + 1)) f d c (L.tin.T nam0 (L.into x)) (L.tin.H nam0 (L.into x) fun _ => none) (tS L F)
 | _ => none
def H8 : List Code → Bool
 | [.loop _] => true
 | _ => false
theorem Good.loop {cx : Cx} (h : Good cx) (fuel d : Nat) {f : FuncId} {id : Nat} {L : Loop} {step : (L.X → Option L.R) → L.X → Option L.R} (h1 : H8 (iv cx.P f id) = true) (heq : ∀ F x, dL cx fuel f d id L F x = step F x) (n : Nat) (hfn : ∀ x, L.fn x = it step n x) (hib : ∀ y, L.into (L.back y) = y) (hoi : ∀ o, L.out (L.inn o) = o)
  (hnam : L.tin.free nam0 (fun _ => none) = true) : Good (cx.addLoop f id L) := by
 obtain ⟨c0, hc0⟩ : ∃ c0, iv cx.P f id = [.loop c0] := by
  unfold H8 at h1
  split at h1
  ·rename_i c hc
   exact ⟨c, hc⟩
  ·cases h1
 have hr : RoundEq cx fuel f d L c0 step := fun F x => by
  have := heq F x
  unfold dL at this
  rw [hc0] at this
  exact this
 refine h.addLoop hc0 (Nt h (fun i L' hl c' hc' => ?_) hr (fun x y hy => ⟨n, by rw [← hfn x]; exact hy⟩) hib hoi hnam)
 exact fun hT hH hh => h.sub (c0 := .loop c0) (by rw [hc0]; simp) i L' hl c' (az _ hc') hT hH hh
def jy (cx : Cx) (fuel f d id : Nat) (L : Loop) (x : L.X) : Option L.R := match iv cx.P f id with
 | [c] => dW cx (fe cx fuel (d + 1)) f d c (L.tin.T nam0 (L.into x)) (L.tin.H nam0 (L.into x) fun _ => none) (L8 L)
 | _ => none
theorem gN {cx : Cx} (h : Good cx) (fuel d : Nat) {f : FuncId} {id : Nat} {L : Loop} (h1 : (iv cx.P f id).length = 1) (heq : ∀ x, jy cx fuel f d id L x = L.fn x) (hib : ∀ y, L.into (L.back y) = y) (hoi : ∀ o, L.out (L.inn o) = o)
  (hnam : L.tin.free nam0 (fun _ => none) = true) : Good (cx.addLoop f id L) := by
 obtain ⟨c0, hc0⟩ := List.length_eq_one_iff.1 h1
 refine h.addLoop hc0 (Nu (fuel := fuel) (d := d) h (h.sub (by rw [hc0]; simp)) (fun x => ?_) hib hoi hnam)
 have := heq x
 unfold jy at this
 rw [hc0] at this
 exact this
theorem Good.fn {cx : Cx} (h : Good cx) (fuel d : Nat) {f : FuncId} {S : FS} (heq : dy cx fuel f d S) (hoi : ∀ o, S.out (S.inn o) = o) (hnam : S.tin.free nam0 (fun _ => none) = true) : Good (cx.bare.addSpec f S) :=
 h.bare.addSpec (H6 h heq hoi hnam)
@[reducible] def dm (n : Nat) : Nat → List (Nat × IK) → List IK
 | i, [] => List.replicate (n - i) .any
 | i, e :: r => List.replicate (e.1 - i) .any ++ e.2 :: dm n (e.1 + 1) r
def FS.with (S : FS) (W : S.tin.Ty → Option S.R) : FS := ⟨S.tin, S.tout, S.R, S.out, S.inn, W⟩
structure SpecS (P : Program) (f : FuncId) (S : FS) : Prop where
 ok : iu P f S
theorem AM {P : Program} {f : FuncId} {S : FS} {step : (S.tin.Ty → Option S.R) → S.tin.Ty → Option S.R} (hs : ∀ W, SpecS P f (S.with W) → SpecS P f (S.with (step W))) : ∀ n, SpecS P f (S.with (it step n))
 | 0 => ⟨by
  intro α I w H A args ρ k r x m hH hA hx hρ h
  cases h⟩
 | n + 1 => hs _ (AM hs n)
theorem Gw {P : Program} {f : FuncId} {S : FS} {step : (S.tin.Ty → Option S.R) → S.tin.Ty → Option S.R} (N : S.tin.Ty → Nat) (hs : ∀ W, SpecS P f (S.with W) → SpecS P f (S.with (step W))) (hfn : ∀ x, S.fn x = it step (N x) x) : SpecS P f S := by
 constructor
 intro α I w H A args ρ k r x m hH hA hx hρ h
 refine (AM hs (N x)).ok (x := x) hH hA hx hρ (k := k) ?_
 rw [hfn x] at h
 exact h
theorem Gx {cx : Cx} (h : Good cx) {f : FuncId} {S : FS} {step : (S.tin.Ty → Option S.R) → S.tin.Ty → Option S.R} (N : S.tin.Ty → Nat) (cW : (S.tin.Ty → Option S.R) → Cx) (hc : ∀ W, Good (cx.bare.addSpec f (S.with W)) → Good (cW W)) (hP : ∀ W, (cW W).P = cx.P) (fuel d : Nat) (heq : ∀ W, dy (cW W) fuel f d (S.with (step W))) (hoi : ∀ o, S.out (S.inn o) = o) (hnam : S.tin.free nam0 (fun _ => none) = true) (hfn : ∀ x, S.fn x = it step (N x) x) : Good (cx.bare.addSpec f S) := by
 have hs : ∀ W, SpecS cx.P f (S.with W) → SpecS cx.P f (S.with (step W)) := fun W hW => by
  have hg : Good (cW W) := hc W (h.bare.addSpec fun hH hA hx hρ hk => hW.ok hH hA hx hρ hk)
  have h1 : SpecS (cW W).P f (S.with (step W)) := ⟨fun hH hA hx hρ hk => H6 (S := S.with (step W)) hg (heq W) hoi hnam hH hA hx hρ hk⟩
  rw [hP W] at h1
  exact h1
 exact h.bare.addSpec fun hH hA hx hρ hk => (Gw N hs hfn).ok hH hA hx hρ hk
theorem jO {H : Heap} : ∀ {ks : List IK} {T : List DV} {m : Met} {p : eM ks × Met}, dZ H ks T m = some p → T.length = ks.length
 | [], [], m, p, h => rfl
 | [], d :: T, m, p, h => by cases h
 | .any :: r, T, m, p, h => by
  simp only [dZ] at h
  split at h
  ·simp only [aH]; rw [jO h]
  ·cases h
 | .val s :: r, T, m, p, h => by
  simp only [dZ] at h
  repeat' split at h
  all_goals first | (cases h; done) | (rename_i hz; simp only [aH]; rw [jO hz])
 | .agf s F :: r, T, m, p, h => by
  simp only [dZ] at h
  repeat' split at h
  all_goals first | (cases h; done) | (rename_i hz; simp only [aH]; rw [jO hz])
 | .row E s :: r, T, m, p, h => by
  simp only [dZ] at h
  repeat' split at h
  all_goals first | (cases h; done) | (rename_i hz; simp only [aH]; rw [jO hz])
 | .obj i :: r, T, m, p, h => by
  simp only [dZ] at h
  repeat' split at h
  all_goals first | (cases h; done) | (simp only [aH]; rw [jO h])
 | .inn i o :: r, T, m, p, h => by
  simp only [dZ] at h
  repeat' split at h
  all_goals first | (cases h; done) | (simp only [aH]; rw [jO h])
 | .clo F is :: r, T, m, p, h => by
  simp only [dZ] at h
  repeat' split at h
  all_goals first | (cases h; done) | (simp only [aH]; rw [jO h])
 | .tab ks vs :: r, T, m, p, h => by cases h
end Go.Proofs.Dk
namespace Go.Proofs.Dk
open Go Go.RowKit Go.ChangeShapes Go.WideShapes
def wE (w : World) : RO := ⟨fun b => b < w.heap.size, fun _ => []⟩
def Sh.Ok : (s : Sh) → s.T → Prop
 | .int k, n => (Lit.int k n).wf = true
 | .bool, _ => True
 | .str, s => s.size ≤ maxLen
 | .pair a b, x => a.Ok x.1 ∧ b.Ok x.2
 | .sl e, l => l.length ≤ maxLen ∧ ∀ x ∈ l, e.Ok x
 | .arr n e, l => l.length = n ∧ ∀ x ∈ l, e.Ok x
 | .fp _, _ => True
def vM (g : TypeId → Sh → Bool) : List Field → Nat → Sh → Bool
 | [], _, _ => false
 | [f], o, s => f.offset == o && g f.type s
 | f :: f' :: r, o, s => match s with
  | .pair a b => f.offset == o && g f.type a && vM g (f' :: r) (o + a.sz) b
  | _ => false
def nU (P : Program) : Nat → TypeId → Sh → Bool
 | 0, _, _ => false
 | n + 1, t, s => P.cellsOf t == s.sz && match P.underlying t with
  | some (.int k) => (match s with | .int k' => decide (k = k') | _ => false)
  | some .bool => (match s with | .bool => true | _ => false)
  | some .string => (match s with | .str => true | _ => false)
  | some (.slice e) => (match s with | .sl s => decide (0 < s.sz) && nU P n e s | _ => false)
  | some (.array m e) => (match s with | .arr m' s => decide (m = m') && decide (0 < s.sz) && nU P n e s | _ => false)
  | some (.struct fs) => vM (nU P n) fs.toList 0 s
  | _ => false
section
variable {P : Program}
def H9 (P : Program) (t : TypeId) (s : Sh) : Prop := P.cellsOf t = s.sz ∧ ∀ {H : Type} (enc : TypeId × Value → H) (w : World) (fuel : Nat) (cs : List Value) (x : DataW H × List MemPlace), DataW.trod enc P w 0 (fun _ => true) true fuel t cs = some x → ∃ a, s.K (wE w) w a cs ∧ s.Ok a
theorem Ia {w : World} {a : Addr} {n : Nat} {cs : List Value} (h : w.cells? 0 a n = some cs) : cs.length = n ∧ ∀ i u, cs[i]? = some u → w.cell? (a.add i) = some u := by
 have hs := World.cells?_some h
 refine ⟨hs.2.1, fun i u hu => ?_⟩
 have hi : i < n := by rw [← hs.2.1]; exact (List.getElem?_eq_some_iff.1 hu).1
 rw [← hu]
 exact hs.2.2 i hi
theorem ME {w : World} {a : Addr} {u : Value} (h : w.cell? a = some u) : a.spot = none ∧ a.block < w.heap.size := by
 unfold World.cell? at h
 split at h
 ·rename_i c e r hb
  split at h
  ·cases h
  ·rename_i hs
   refine ⟨by simpa using hs, (Array.getElem?_eq_some_iff.1 hb).1⟩
 ·cases h
theorem C4 {g : TypeId → Sh → Bool} (hg : ∀ t s, g t s = true → H9 P t s) : ∀ (fs : List Field) (o : Nat) (s : Sh), vM g fs o s = true → ∀ {H : Type} (enc : TypeId × Value → H) (w : World) (n : Nat) (cs : List Value), o + s.sz ≤ cs.length → (∀ (i : Nat) (f : Field), fs[i]? = some f → ∃ x, DataW.trod enc P w 0 (fun _ => true) true n f.type ((cs.drop f.offset).take (P.cellsOf f.type)) = some x) → ∃ a, s.K (wE w) w a ((cs.drop o).take s.sz) ∧ s.Ok a
 | [], o, s, h => by simp [vM] at h
 | [f], o, s, h => by
  intro enc w n cs hl hx
  simp only [vM, aj, ai] at h
  obtain ⟨ho, hs⟩ := h
  obtain ⟨hc, hop⟩ := hg _ _ hs
  obtain ⟨x, hx⟩ := hx 0 f rfl
  rw [ho, hc] at hx
  exact hop enc w n _ _ hx
 | f :: f' :: r, o, s, h => by
  intro enc w n cs hl hx
  simp only [vM] at h
  split at h
  ·rename_i a b
   simp only [aj, ai] at h
   obtain ⟨⟨ho, hs⟩, hr⟩ := h
   obtain ⟨hc, hop⟩ := hg _ _ hs
   have hl' : o + (a.sz + b.sz) ≤ cs.length := hl
   obtain ⟨x, hx0⟩ := hx 0 f rfl
   rw [ho, hc] at hx0
   obtain ⟨y, hy, hoy⟩ := hop enc w n _ _ hx0
   obtain ⟨z, hz, hoz⟩ := C4 hg (f' :: r) (o + a.sz) b hr enc w n cs (by omega) (fun i g hg => hx (i + 1) g hg)
   refine ⟨(y, z), ⟨_, _, ?_, hy, hz⟩, hoy, hoz⟩
   show (cs.drop o).take (a.sz + b.sz) = _
   rw [List.take_add, bv]
  ·cases h
theorem rG : ∀ (n : Nat) (t : TypeId) (s : Sh), nU P n t s = true → H9 P t s
 | 0, t, s, h => by simp [nU] at h
 | n + 1, t, s, h => by
  simp only [nU, aj, ai] at h
  obtain ⟨hc, h⟩ := h
  refine ⟨hc, ?_⟩
  intro H enc w fuel cs x hx
  split at h
  ·rename_i k ht
   split at h
   ·rename_i k'
    simp only [av] at h
    subst h
    obtain ⟨m, rfl, _, hw⟩ := DataW.trod_int ht hx
    exact ⟨m, rfl, hw⟩
   ·cases h
  ·rename_i ht
   split at h
   ·obtain ⟨b, rfl, _⟩ := DataW.trod_bool ht hx
    exact ⟨b, rfl, trivial⟩
   ·cases h
  ·rename_i ht
   split at h
   ·obtain ⟨b, rfl, _, hw⟩ := DataW.trod_string ht hx
    exact ⟨b, rfl, hw⟩
   ·cases h
  ·rename_i e ht
   split at h
   ·rename_i s
    simp only [aj, av] at h
    obtain ⟨hz, h⟩ := h
    obtain ⟨hce, hop⟩ := rG n e s h
    rcases Go.Deep.open_slice ht hx with ⟨rfl, _⟩ | ⟨a, len, cap, m, n', D, Pl, rfl, _, hl, hm, hmm, _, hx2⟩
    ·exact ⟨[], ⟨none, 0, rfl, ak _, fun hn => absurd rfl hn⟩, by simp [maxLen], fun x hx => by cases hx⟩
    simp only [if_true] at hmm
    subst hmm
    have hall : ∀ i, i < len → ∃ x : s.T, ∃ c, c.length = s.sz ∧ s.K (wE w) w x c ∧ (∀ j u, c[j]? = some u → w.cell? (a.add (i * s.sz + j)) = some u) ∧ s.Ok x := by
     intro i hi
     obtain ⟨cs', h1, h2⟩ := hx2 i (by omega)
     rw [hce] at h1
     obtain ⟨h3, h4⟩ := Ia h1
     obtain ⟨x, hk, ho⟩ := hop enc w n' cs' _ h2
     exact ⟨x, cs', h3, hk, fun j u hj => by rw [← Go.Deep.add_add]; exact h4 j u hj, ho⟩
    have : Inhabited s.T := ⟨s.dflt⟩
    obtain ⟨X, hX⟩ := Go.Deep.choose_lt hall
    refine ⟨(List.range len).map X, ⟨some a, m, by simp, by simpa using hl, fun hne => ?_⟩, by simpa using aT hl hm, fun x hx => ?_⟩
    ·have hlen : 0 < len := by
      rcases bZ len with h0 | h0
      ·rw [h0] at hne; simp at hne
      ·exact h0
     obtain ⟨c, h1, h2, h3, _⟩ := hX 0 hlen
     have hc0 : c[0]? = some (c[0]'(by omega)) := ax _
     have h5 := h3 0 _ hc0
     have ha0 : a.add (0 * s.sz + 0) = a := by simp [Addr.add]
     rw [ha0] at h5
     obtain ⟨g1, g2⟩ := ME h5
     refine ⟨a, rfl, g1, g2, fun i p hi => ?_⟩
     have hi2 : i < len := by
      have := (List.getElem?_eq_some_iff.1 hi).1
      simpa using this
     obtain ⟨c, h1, h2, h3, _⟩ := hX i hi2
     have : X i = p := by simpa [bN, List.getElem?_range hi2] using hi
     subst this
     exact ⟨c, h1, h2, h3⟩
    ·obtain ⟨i, hi, rfl⟩ := List.mem_map.1 hx
     obtain ⟨_, _, _, _, ho⟩ := hX i (bh.1 hi)
     exact ho
   ·cases h
  ·rename_i m e ht
   split at h
   ·rename_i m' s
    simp only [aj, av] at h
    obtain ⟨⟨rfl, hz⟩, h⟩ := h
    obtain ⟨hce, hop⟩ := rG n e s h
    obtain ⟨xs, k, _, rfl, hl, hxl, hx2⟩ := DataW.trod_array ht hx
    have hall : ∀ i, i < m → ∃ x : s.T, s.K (wE w) w x ((cs.drop (i * s.sz)).take s.sz) ∧ s.Ok x := by
     intro i hi
     have h1 := hx2 i hi
     rw [hce, ax (by omega)] at h1
     exact hop enc w k _ _ h1
    have : Inhabited s.T := ⟨s.dflt⟩
    obtain ⟨X, hX⟩ := Go.Deep.choose_lt hall
    refine ⟨(List.range m).map X, ⟨by simp, by rw [hl, hc]; rfl, fun i p hi => ?_⟩, by simp, fun x hx => ?_⟩
    ·have hi2 : i < m := by
      have := (List.getElem?_eq_some_iff.1 hi).1
      simpa using this
     have : X i = p := by simpa [bN, List.getElem?_range hi2] using hi
     subst this
     exact (hX i hi2).1
    ·obtain ⟨i, hi, rfl⟩ := List.mem_map.1 hx
     exact (hX i (bh.1 hi)).2
   ·cases h
  ·rename_i fs ht
   obtain ⟨xs, k, _, rfl, hl, hxl, hx2⟩ := DataW.trod_struct ht hx
   obtain ⟨a, ha, ho⟩ := C4 (fun t s h => rG n t s h) fs.toList 0 s h enc w k cs (by omega) (fun i f hi => by
    have h1 := hx2 i f (by simpa using hi)
    have hlt : i < xs.length := by
     have := (List.getElem?_eq_some_iff.1 hi).1
     rw [hxl]
     simpa using this
    rw [ax hlt] at h1
    exact ⟨_, h1⟩)
   rw [bx, aQ (by omega)] at ha
   exact ⟨a, ha, ho⟩
  ·cases h
def I0 (w : World) : In := ⟨fun _ => none, wE w⟩
theorem hr0 (w : World) : HR (I0 w) w fun _ => none := ⟨fun n cs h => (by cases h), fun n E s xs h => (by cases h), fun n T es h => (by cases h), fun n t k xs h => (by cases h), fun n h => rfl, fun n e b h => (by cases h), fun n m e e' b h => (by cases h), fun b h => h, fun n m t B B' h => (by cases h)⟩
theorem Ic {f : FuncId} {S : FS} (hS : iu P f S) {w : World} {A : List DV} {args : List Value} {x : S.tin.Ty} {y : S.R} (hA : LR (I0 w) w A args) (hx : S.tin.pr ⟨[], []⟩ A (fun _ => none) = some (x, ⟨[], []⟩)) (hfn : S.fn x = some y) (hfree : ∀ ρ H, S.tout.free ρ H = true) (hT : ∀ ρ, gV (S.tout.T ρ (S.out y)) = .sc (.bool true)) : Calls P f args.toArray w fun e w' => e = .returned (.bool true) ∧ Below w.heap.size w w' := by
 refine Calls.mono (hS (ρ := nam0) (k := fun v H u => some v) (r := .sc (.bool true)) (hr0 w) hA hx (fun i n h => by cases h) ?_) ?_
 ·rw [hfn, ae]
  simp only [hfree, if_true, hT]
 ·rintro e w' he
  cases e with
  | returned z =>
   obtain ⟨I', v, H', u, h1, h2, h3, h4, h5⟩ := he
   simp only [ab] at h1
   subst h1
   refine ⟨by rw [h4.sc_eq], h2.os, h2.tape, h2.output, h2.size, fun b hb => h2.same b hb fun n e hn => by cases hn⟩
  | _ => exact he.elim
end
end Go.Proofs.Dk
namespace Go.Proofs.Dk
open Go Go.RowKit
def Gy : List (List Int) → List FuncId → Int → Option FuncId
 | l :: ks, d :: vs, n => if (l.any fun x => n == x) = true then some d else Gy ks vs n
 | _, _, _ => none
theorem oF {f : FuncId → DV} : ∀ (ks : List (List Int)) (Fs : List FuncId) (n : Int), d6 ks (Fs.map f) n = (Gy ks Fs n).map f
 | [], Fs, n => by cases Fs <;> rfl
 | l :: ks, [], n => rfl
 | l :: ks, F :: Fs, n => by
  simp only [List.map_cons, d6, Gy]
  split
  ·rfl
  ·exact oF ks Fs n
theorem Id {I : In} {w : World} {H : Heap} {d : DV} {v : Value} {ks : List (List Int)} {vs : List DV} (hH : HR I w H) (hv : VR I w d v) (h : lu H d = some (ks, vs)) : ∃ b es clock val, v = .map (some b) ∧ (I.R b ∨ ∃ n, I.ι n = some (.obj b)) ∧ w.heap[b]? = some (.map es clock) ∧ TabE ks vs val es.toList ∧ ∀ m d, d6 ks vs m = some d → VR I w d (val m) := by
 unfold lu at h
 split at h
 ·simp only [ab, ah] at h
  obtain ⟨rfl, rfl⟩ := h
  cases hv with | tab _ _ val b es cl hR hb hE hL => exact ⟨b, es, cl, val, rfl, .inl hR, hb, hE, hL⟩
 ·rename_i n
  split at h
  ·rename_i ks' vs' hn
   simp only [ab, ah] at h
   obtain ⟨rfl, rfl⟩ := h
   cases hv with | mh _ b hi =>
   obtain ⟨b', es, cl, val, k1, k2, k3, k4⟩ := hH.mp n _ _ hn
   rw [hi] at k1
   simp only [ab, Ent.obj.injEq] at k1
   subst k1
   exact ⟨b, es, cl, val, rfl, .inr ⟨n, hi⟩, k2, k3, k4⟩
  ·cases h
 ·cases h
theorem Ie {I : In} {w : World} : ∀ {vs us : List Value}, LR I w (vs.map DV.sc) us → us = vs
 | [], us, h => by cases h; rfl
 | v :: vs, us, h => by
  cases h with | cons _ _ u us' hd hr =>
  rw [hd.sc_eq, Ie hr]
theorem Fj {I : In} {w : World} : ∀ {vs : List Value}, (∀ v ∈ vs, v.oneCell' = true) → LR I w (vs.map DV.sc) vs
 | [], _ => .nil
 | v :: vs, h => .cons _ _ _ _ (.sc v (h v (aD ..))) (Fj fun u hu => h u (az _ hu))
theorem Fl {I : In} {w : World} : ∀ {A : List DV} {vs : List Value}, LR I w A vs → A.all yn = true → ∀ v ∈ vs, v.oneCell' = true
 | _, _, .nil, _, v, hv => by cases hv
 | _, _, .cons d r u vs hd hr, h, v, hv => by
  simp only [b8, aj] at h
  rcases aB.1 hv with rfl | hv
  ·cases hd <;> simp [yn] at h
   rfl
  ·exact Fl hr h.2 v hv
theorem L9 {cx : Cx} (hg : Good cx) {g : FuncId} {ar : Nat} {ks : List (List Int)} {Fs : List FuncId} (fuel : Nat) (heq : ∀ vs : List Value, vs.length = ar → jc cx (fe cx fuel 1) g 0 (vs.map DV.sc) (fun _ => none) (fun v H => lu H v) = some (ks, Fs.map fun F => .fn (.func F) (vs.map DV.sc) [])) : mP cx.P g (ar, ks, Fs) := by
 intro I w H A args hH hA hl hp
 have hone := Fl hA hp
 have hlen : args.length = ar := by rw [← hA.length]; exact hl
 have hH1 : HR ⟨fun _ => none, ⟨fun _ => False, I.R.fam⟩⟩ w fun _ => none := ⟨fun n cs h => (by cases h), fun n E s xs h => (by cases h), fun n ks vs h => (by cases h), fun n t k xs h => (by cases h), fun n h => rfl, fun n e b h => (by cases h), fun n m e e' b h => (by cases h), fun b h => h.elim, fun n m t B B' h => (by cases h)⟩
 have hA1 : LR ⟨fun _ => none, ⟨fun _ => False, I.R.fam⟩⟩ w (args.map DV.sc) args := Fj hone
 refine Calls.mono (oC hg (iE hg fuel 1) hH1 (ba hA1.length) (fun i => hA1.getD i) (heq args hlen)) ?_
 rintro e w' he
 cases e with
 | returned z =>
  obtain ⟨I', v, H', h1, h2, h3, h4⟩ := he
  obtain ⟨b, es, cl, val, rfl, hnew, hb, hE, hL⟩ := Id h3 h4 h1
  have hb0 : w.heap.size ≤ b := by
   rcases hnew with hR | ⟨n, hn⟩
   ·rcases h2.newR b hR with h | ⟨m, e', h, _⟩ | h
    ·exact h.elim
    ·cases h
    ·exact h
   ·rcases h2.own n _ b hn rfl with ⟨m, e', h, _⟩ | h
    ·cases h
    ·exact h
  have hw : ∀ c, c < w.heap.size → w'.heap[c]? = w.heap[c]? := fun c hc => h2.same c hc fun n e h => by cases h
  have hbw : b < w'.heap.size := (Array.getElem?_eq_some_iff.1 hb).1
  obtain ⟨q1, q2⟩ := hH.grow (I' := ⟨I.ι, ⟨fun c => I.R c ∨ (w.heap.size ≤ c ∧ c < w'.heap.size), I.R.fam⟩⟩) rfl rfl (fun c => Iff.rfl) hw h2.size
  refine ⟨⟨I.ι, ⟨fun c => I.R c ∨ (w.heap.size ≤ c ∧ c < w'.heap.size), I.R.fam⟩⟩, ⟨fun n c h => h, fun c h => .inl h, fun c h _ => hw c h, fun n e c h k => .inl ⟨n, e, h, k⟩, fun c h => ?_, h2.size, h2.os, h2.tape, h2.output, fun _ _ _ h => h, fun _ h => ⟨rfl, h⟩⟩, ⟨fun n sz v h => h⟩, q1, ?_⟩
  ·rcases h with h | h
   ·exact .inl h
   ·exact .inr (.inr h.1)
  ·refine .tab ks _ val b es cl (.inr ⟨hb0, hbw⟩) hb ⟨hE.keys, fun e he n hn => ⟨(hE.here e he n hn).1, ?_⟩, fun n hn => ?_⟩ fun n d hd => ?_
   ·have := (hE.here e he n hn).2
    rw [oF, Option.isSome_map] at this ⊢
    exact this
   ·refine hE.all n ?_
    rw [oF, Option.isSome_map] at hn ⊢
    exact hn
   ·rw [oF] at hd
    obtain ⟨F, hF, rfl⟩ := Option.map_eq_some_iff.1 hd
    have := hL n (.fn (.func F) (args.map DV.sc) []) (by rw [oF, hF]; rfl)
    generalize val n = u at this
    cases this with | fn _ _ _ a' b' k1 k2 =>
    have e1 := Ie k1
    refine .fn _ _ _ _ _ ?_ ?_
    ·rw [e1]; exact LR.keep q2 hA
    ·cases hbb : b'.toList with
     | nil => exact .nil
     | cons c r => rw [hbb] at k2; cases k2
 | _ => exact he.elim
theorem Nw {cx : Cx} (hg : Good cx) {g : FuncId} {ks : List (List Int)} {Fs : List FuncId} (fuel : Nat) (heq : ∀ p : Value, jc cx (fe cx fuel 1) g 0 [.sc p] (fun _ => none) (fun v H => lu H v) = some (ks, Fs.map fun F => .fn (.func F) [.sc p] [])) : mP cx.P g (1, ks, Fs) :=
 fun hH hA hl hp => L9 hg fuel (fun vs h => by
  match vs, h with
  | [p], _ => exact heq p) hH hA hl hp
theorem Nx {cx : Cx} (hg : Good cx) {g : FuncId} {ks : List (List Int)} {Fs : List FuncId} (fuel : Nat) (heq : jc cx (fe cx fuel 1) g 0 [] (fun _ => none) (fun v H => lu H v) = some (ks, Fs.map fun F => .fn (.func F) [] [])) : mP cx.P g (0, ks, Fs) :=
 fun hH hA hl hp => L9 hg fuel (fun vs h => by
  match vs, h with
  | [], _ => exact heq) hH hA hl hp
def Cx.addTab (cx : Cx) (f : FuncId) (t : Nat × List (List Int) × List FuncId) : Cx := ⟨cx.P, cx.loops, cx.specs, fun g => if Nat.beq g f then some t else cx.tabs g, cx.qs, cx.qr⟩
theorem Good.addTab {cx : Cx} (h : Good cx) {f : FuncId} {t : Nat × List (List Int) × List FuncId} (ht : mP cx.P f t) : Good (cx.addTab f t) := by
 refine ⟨h.specs, h.loops, h.pures, fun g t' hg => ?_, h.qs, h.qr⟩
 simp only [Cx.addTab] at hg
 split at hg
 ·rename_i hgf
  have := bO hgf
  subst this
  simp only [ab] at hg
  subst hg
  intro I w H A args hH hA hl hp
  exact ht hH hA hl hp
 ·intro I w H A args hH hA hl hp
  exact h.tabs g t' hg hH hA hl hp
theorem Good.known {cx : Nat → Cx} (hg : ∀ n, Good (cx n)) {f : FuncId} {S : Nat → FS} (N : Nat) (h : iu (cx N).P f (S N)) (hz : ∀ n, n ≠ N → ∀ x, (S n).fn x = none) (n : Nat) : Good ((cx n).bare.addSpec f (S n)) := by
 refine (hg n).bare.addSpec fun hH hA hx hρ hk => ?_
 by_cases e : n = N
 ·subst e; exact h hH hA hx hρ hk
 ·rw [hz n e] at hk
  cases hk
theorem Ki {α : Type} {n N : Nat} {v : α} (h : n ≠ N) : (if Nat.beq n N = true then some v else none) = none := if_neg fun e => h (bO e)
section
variable {α : Type} {P : Program} {I : In} {w : World} {T : List DV} {a : Act} {H : Heap}
def DoneQ (P : Program) (o : Oper) (a : Act) (I : In) (w : World) (v : DV) : Prop := ∃ u, (execOp a.eval o).run P w = .ok (.value u) w ∧ VR I w v u
theorem DoneQ.pure {o : Oper} {v : DV} {u : Value} (hr : (execOp a.eval o).run P w = .ok (.value u) w) (h : VR I w v u) : DoneQ P o a I w v := ⟨u, hr, h⟩
theorem DoneQ.makes {o : Oper} {v : DV} {s : Sem Value} (ho : execOp a.eval o = (do Pure.pure (Next.value (← s)))) (h : jd P I w s v) : DoneQ P o a I w v := by
 obtain ⟨u, h1, h2⟩ := h
 exact ⟨u, by rw [ho]; exact jL h1, h2⟩
end
section
variable {α : Type} (cx : Cx)
end
section
variable {α : Type} {cx : Cx} {I : In} {w : World} {H : Heap}
def FS.looks (S : FS) : Bool := gh S.tout.ks && S.tout.os.isEmpty
end
mutual
def DV.subO (n : Nat) : DV → DV
 | .ptr m o p => if m = n then .undef else .ptr m o p
 | .mh m => if m = n then .undef else .mh m
 | .ps m o p q l => if m = n then .undef else .ps m o p q l
 | .fn F a b => .fn F (fZ n a) (fZ n b)
 | .agg cs => .agg (fZ n cs)
 | .tup cs => .tup (fZ n cs)
 | .tab ks vs => .tab ks (fZ n vs)
 | v => v
def fZ (n : Nat) : List DV → List DV
 | [] => []
 | d :: r => d.subO n :: fZ n r
end
def Blk.subO (n : Nat) : Blk → Blk
 | .obj cs => .obj (fZ n cs)
 | .mp ks vs => .mp ks (fZ n vs)
 | b => b
def Heap.subO (n : Nat) (H : Heap) : Heap := fun m => if m = n then none else match H m with | some b => some (b.subO n) | none => none
def In.dropO (I : In) (n : Nat) : In := ⟨fun m => if m = n then none else I.ι m, I.R⟩
theorem ng {m : Nat} : ∀ (ks : List (List Int)) (vs : List DV) (n : Int), d6 ks (fZ m vs) n = (d6 ks vs n).map (DV.subO m)
 | [], vs, n => by cases vs <;> rfl
 | l :: ks, [], n => rfl
 | l :: ks, v :: vs, n => by
  simp only [fZ, d6]
  split
  ·rfl
  ·exact ng ks vs n
structure ButO (n : Nat) (I I' : In) (w w' : World) : Prop where
 keeps : Keeps I.R I'.R w w'
 obj : ∀ m b, m ≠ n → I.ι m = some (.obj b) → I'.ι m = some (.obj b)
 row : ∀ m sz v, I.ι m = some (.row sz v) → I'.ι m = some (.row sz v)
section
variable {I I' : In} {w w' : World}
mutual
theorem VR.subO {n : Nat} (hs : ButO n I I' w w') : ∀ {d : DV} {v : Value}, VR I w d v → VR I' w' (d.subO n) v
 | _, _, .undef v => .undef v
 | _, _, .sc v h => .sc v h
 | _, _, .ptr m o p b h hp => by
  simp only [DV.subO]
  split
  ·exact .undef _
  ·rename_i hm
   exact .ptr m o p b (hs.obj _ _ hm h) hp
 | _, _, .rp m sz i p b len cap h hi hp => .rp m sz i p b len cap (hs.row _ _ _ h) hi hp
 | _, _, .pi its a cs h0 hR him h hc => .pi its a cs h0 (hs.keeps.sub _ hR) him (jK hs.keeps h him) (fun j u hu => (kJ (by rw [gp]; exact hs.keeps.same _ hR)).trans (hc j u hu))
 | _, _, .rw m sz v h h2 => .rw m sz v (hs.row _ _ _ h) h2
 | _, _, .sl m o l sz A A' len cap cap' h hl h0 h1 hc => .sl m o l sz A A' len cap cap' (hs.row _ _ _ h) hl h0 h1 hc
 | _, _, .vs s xs v h => .vs s xs v (Sh.K_keep hs.keeps h)
 | _, _, .fn F a b a' b' h1 h2 => .fn F _ _ a' b' (LR.subO hs h1) (LR.subO hs h2)
 | _, _, .agg ds cs h => .agg _ cs (CR.subO hs h)
 | _, _, .tup ds vs h => .tup _ vs (LR.subO hs h)
 | _, _, .tab ks vs us b es cl hR hb hE h => .tab ks _ us b es cl (hs.keeps.sub _ hR) ((hs.keeps.same _ hR).trans hb) (hE.map (ng ks vs)) (fun m d hp => by
   rw [ng] at hp
   obtain ⟨d0, h0, rfl⟩ := Option.map_eq_some_iff.1 hp
   exact VR.subO hs (h m d0 h0))
 | _, _, .mh m b h => by
  simp only [DV.subO]
  split
  ·exact .undef _
  ·rename_i hm
   exact .mh m b (hs.obj _ _ hm h)
 | _, _, .fp t m v h => .fp t m v (Sh.K_keep hs.keeps h)
 | _, _, .ps m o p q l b cap h hp hl hm' => by
  simp only [DV.subO]
  split
  ·exact .undef _
  ·rename_i hm
   exact .ps m o p q l b cap (hs.obj _ _ hm h) hp hl hm'
theorem CR.subO {n : Nat} (hs : ButO n I I' w w') : ∀ {d : List DV} {v : List Value}, CR I w d v → CR I' w' (fZ n d) v
 | _, _, .nil => .nil
 | _, _, .one d r u cs h hu hr => .one _ _ u cs (VR.subO hs h) hu (CR.subO hs hr)
 | _, _, .arr s m xs r c cs h h1 hr => .arr s m xs _ c cs (Sh.K_keep hs.keeps h) h1 (CR.subO hs hr)
theorem LR.subO {n : Nat} (hs : ButO n I I' w w') : ∀ {d : List DV} {v : List Value}, LR I w d v → LR I' w' (fZ n d) v
 | _, _, .nil => .nil
 | _, _, .cons d r u vs h hr => .cons _ _ u vs (VR.subO hs h) (LR.subO hs hr)
end
end
section
variable {I : In} {w : World} {H : Heap}
theorem HR.delO (hH : HR I w H) {n g : Nat} (hn : I.ι n = some (.obj g)) : HR (I.dropO n) w (H.subO n) ∧ ButO n I (I.dropO n) w w := by
 have hi : ∀ m, m ≠ n → (I.dropO n).ι m = I.ι m := fun m hm => by simp [In.dropO, hm]
 have h0 : (I.dropO n).ι n = none := by simp [In.dropO]
 have hf : ∀ {m : Nat} {t : TypeId} {B : Nat → Nat → Prop}, (I.dropO n).ι m = some (.fam t B) ↔ I.ι m = some (.fam t B) := fun {m t B} => by
  by_cases hm : m = n
  ·subst hm
   rw [h0, hn]
   exact ⟨fun h => (by cases h), fun h => (by cases h)⟩
  ·rw [hi m hm]
 have hb : ButO n I (I.dropO n) w w := by
  refine ⟨⟨fun _ h => h, fun _ _ => rfl, fun _ _ _ h => h⟩, fun m b hm h => by rw [hi m hm]; exact h, fun m sz v h => ?_⟩
  rw [hi]
  ·exact h
  ·rintro rfl; rw [hn] at h; cases h
 refine ⟨HR.of (fun m b hm => ?_) (fun m hm => ?_) (fun m e b hm he => ?_) (fun m m' e e' b hm hm' he he' => ?_) (fun b hR => hH.rlt b hR) (fun m m' t B B' h1 h2 => hH.one m m' t B B' (hf.1 h1) (hf.1 h2)), hb⟩
 ·simp only [Heap.subO] at hm
  split at hm
  ·cases hm
  ·rename_i hmn
   split at hm
   ·rename_i b0 hb0
    simp only [ab] at hm
    subst hm
    cases b0 with
    | obj cs0 =>
     obtain ⟨b, c, t, k1, k2, k3⟩ := hH.obj m cs0 hb0
     exact ⟨b, c, t, hb.obj _ _ hmn k1, k2, CR.subO hb k3⟩
    | row E' s' xs' =>
     obtain ⟨u, cs', k1, k2, k3⟩ := hH.row m E' s' xs' hb0
     exact ⟨u, cs', hb.row _ _ _ k1, k2, Sh.K_keep hb.keeps k3⟩
    | mp ks vs =>
     obtain ⟨b, es, cl, val, k1, k2, k3, k4⟩ := hH.mp m ks vs hb0
     refine ⟨b, es, cl, val, hb.obj _ _ hmn k1, k2, k3.map (ng ks vs), fun j d hd => ?_⟩
     rw [ng] at hd
     obtain ⟨d0, h0', rfl⟩ := Option.map_eq_some_iff.1 hd
     exact VR.subO hb (k4 j d0 h0')
    | fam t k xs => exact FamR.keep hb.keeps (fun B hB => ⟨hf.2 hB, rfl⟩) (hH.fam m t k xs hb0) (fun _ _ _ _ => rfl)
   ·cases hm
 ·by_cases hmn : m = n
  ·subst hmn; exact h0
  ·rw [hi m hmn]
   simp only [Heap.subO, hmn, aC] at hm
   split at hm
   ·cases hm
   ·rename_i hb0
    exact hH.dom m hb0
 ·by_cases hmn : m = n
  ·subst hmn; rw [h0] at hm; cases hm
  ·rw [hi m hmn] at hm
   exact hH.lt m e b hm he
 ·by_cases hmn : m = n
  ·subst hmn; rw [h0] at hm; cases hm
  ·by_cases hmn' : m' = n
   ·subst hmn'; rw [h0] at hm'; cases hm'
   ·rw [hi m hmn] at hm
    rw [hi m' hmn'] at hm'
    exact hH.inj m m' e e' b hm hm' he he'
theorem MF {n sz : Nat} {v : Value} (hn : I.ι n = some (.row sz v)) : But n .none I (I.dels [n]) w w := by
 have hi : ∀ m, m ≠ n → (I.dels [n]).ι m = I.ι m := fun m hm => by simp [In.dels, hm]
 refine ⟨⟨fun _ h => h, fun _ _ => rfl, fun _ _ _ h => h⟩, fun m b h => ?_, fun m sz v hm h => by rw [hi m hm]; exact h, fun s xs h => by cases h⟩
 rw [hi]
 ·exact h
 ·rintro rfl; rw [hn] at h; cases h
theorem LR.dels : ∀ {l : List Nat} {I : In} {ds : List DV} {us : List Value}, LR I w ds us → l.Nodup → (∀ n ∈ l, ∃ sz v, I.ι n = some (.row sz v)) → LR (I.dels l) w (dJ l ds) us
 | [], I, ds, us, h, _, _ => by
  have : I.dels [] = I := by simp [In.dels]
  rw [this]
  exact h
 | n :: l, I, ds, us, h, hd, hr => by
  obtain ⟨sz, v, hn⟩ := hr n (aD ..)
  rw [bp] at hd
  have h1 := LR.dels (l := l) (LR.sub (MF hn) h) hd.2 fun m hm => by
   obtain ⟨sz, v, h⟩ := hr m (az _ hm)
   have : m ≠ n := by rintro rfl; exact hd.1 hm
   exact ⟨sz, v, by simp [In.dels, this, h]⟩
  have : (I.dels [n]).dels l = I.dels (n :: l) := by
   unfold In.dels
   simp only [aB, List.not_mem_nil, or_false, In.mk.injEq, aZ]
   funext m
   by_cases h1 : m ∈ l <;> by_cases h2 : m = n <;> simp [h1, h2]
  rw [this] at h1
  exact h1
@[reducible] def oG (k : List EK) : Tmpl := ⟨[.obj 0], [k.map dz]⟩
def tT (k : List EK) (n : Nat) (H : Heap) : Option (f9 k × List Nat) := match H n with
 | some (.obj _) => match (oG k).pr ⟨[], []⟩ [.ptr n 0 []] H with
  | some (x, m) => some (E3 k x.2.1, m.u)
  | none => none
 | _ => none
def Ci (n : Nat) (u : List Nat) (l : List DV) : List DV := fZ n (dJ u l)
def vN (n : Nat) (u : List Nat) (H : Heap) : Heap := (dv u H).subO n
theorem C5 {k : List EK} : ∀ t ke, k.map dz = [.fam t ke] → False := by
 intro t ke h
 cases k with
 | nil => cases h
 | cons a r => cases a <;> simp [dz] at h
theorem ii : ∀ {ks : List IK} {c n : Nat}, n ∈ de nam0 c ks → 100000 + c ≤ n
 | [], c, n, h => by simp [de] at h
 | .row E s :: r, c, n, h => by
  simp only [de, aB] at h
  rcases h with rfl | h
  ·exact ak _
  ·have := ii h; omega
 | .any :: r, c, n, h => by have := ii (ks := r) (c := c + 1) h; omega
 | .val s :: r, c, n, h => by have := ii (ks := r) (c := c + 1) h; omega
 | .agf s F :: r, c, n, h => by have := ii (ks := r) (c := c + 1) h; omega
 | .obj i :: r, c, n, h => by have := ii (ks := r) (c := c + 1) h; omega
 | .inn i o :: r, c, n, h => by have := ii (ks := r) (c := c + 1) h; omega
 | .clo F is :: r, c, n, h => by have := ii (ks := r) (c := c + 1) h; omega
 | .tab ks vs :: r, c, n, h => by have := ii (ks := r) (c := c + 1) h; omega
 | .fam t k :: r, c, n, h => by have := ii (ks := r) (c := c + 1) h; omega
theorem gX {ρ : Nam} : ∀ {ks : List IK} {c : Nat} {x : eM ks} {H : Heap} {n : Nat}, el ρ c ks x H n = none → n ∉ de ρ c ks
 | [], c, x, H, n, h => by simp [de]
 | .any :: r, c, x, H, n, h => gX (ks := r) h
 | .val s :: r, c, x, H, n, h => gX (ks := r) h
 | .agf s F :: r, c, x, H, n, h => gX (ks := r) h
 | .obj i :: r, c, x, H, n, h => gX (ks := r) h
 | .inn i o :: r, c, x, H, n, h => gX (ks := r) h
 | .clo F is :: r, c, x, H, n, h => gX (ks := r) h
 | .tab ks vs :: r, c, x, H, n, h => gX (ks := r) h
 | .fam t k :: r, c, x, H, n, h => gX (ks := r) h
 | .row E s :: r, c, x, H, n, h => by
  simp only [de, aB, not_or]
  have h1 : n ∉ de ρ (c + 1) r := gX (ks := r) h
  refine ⟨?_, h1⟩
  rintro rfl
  have h2 : el ρ (c + 1) r x.2 (H.set (ρ.r c) (some (.row E s x.1))) (ρ.r c) = none := h
  rw [eE h1, Heap.set_same] at h2
  cases h2
theorem iX {ρ : Nam} : ∀ {ks : List IK} {c : Nat} {x : eM ks} {H : Heap} {n : Nat}, n ∈ de ρ c ks → ∃ E s xs, el ρ c ks x H n = some (.row E s xs)
 | [], c, x, H, n, h => by simp [de] at h
 | .any :: r, c, x, H, n, h => iX (ks := r) h
 | .val s :: r, c, x, H, n, h => iX (ks := r) h
 | .agf s F :: r, c, x, H, n, h => iX (ks := r) h
 | .obj i :: r, c, x, H, n, h => iX (ks := r) h
 | .inn i o :: r, c, x, H, n, h => iX (ks := r) h
 | .clo F is :: r, c, x, H, n, h => iX (ks := r) h
 | .tab ks vs :: r, c, x, H, n, h => iX (ks := r) h
 | .fam t k :: r, c, x, H, n, h => iX (ks := r) h
 | .row E s :: r, c, x, H, n, h => by
  by_cases h1 : n ∈ de ρ (c + 1) r
  ·exact iX (ks := r) h1
  ·simp only [de, aB] at h
   rcases h with rfl | h
   ·refine ⟨E, s, x.1, ?_⟩
    show el ρ (c + 1) r x.2 (H.set (ρ.r c) (some (.row E s x.1))) (ρ.r c) = _
    rw [eE h1, Heap.set_same]
   ·exact absurd h h1
theorem Cj : ∀ (k : List EK) (c : Nat), (de nam0 c (k.map dz)).Nodup
 | [], c => List.nodup_nil
 | .any :: r, c => Cj r (c + 1)
 | .val s :: r, c => Cj r (c + 1)
 | .row E s :: r, c => by
  show (nam0.r c :: de nam0 (c + 1) (r.map dz)).Nodup
  refine bp.2 ⟨fun h => ?_, Cj r (c + 1)⟩
  have := ii h
  have : 100000 + (c + 1) ≤ 100000 + c := this
  omega
theorem C6 (k : List EK) : (oG k).free nam0 (fun _ => none) = true := by
 have h : ∀ {l : List Nat}, l.Nodup → jn l = true := by
  intro l
  induction l with
  | nil => intro _; rfl
  | cons a r ih =>
   intro h
   rw [bp] at h
   simp only [jn, aj, bJ, ck, decide_eq_false_iff_not]
   exact ⟨h.1, ih h.2⟩
 unfold Tmpl.free
 simp only [aj, aN, Option.isNone_none, implies_true, aZ]
 refine h ?_
 show (0 :: (de nam0 1000 (k.map dz) ++ [])).Nodup
 rw [aG]
 refine bp.2 ⟨fun h => ?_, Cj k 1000⟩
 have := ii h
 omega
theorem AN {k : List EK} {n : Nat} {x : f9 k} {u : List Nat} {l : List DV} {us : List Value} (hH : HR I w H) (h : tT k n H = some (x, u)) (hl : LR I w l us) :
  ∃ b B I', I.ι n = some (.obj b) ∧ MemR I.R w k x b B ∧ HR I' w (vN n u H) ∧ LR I' w (Ci n u l) us ∧ I'.R = I.R ∧
   (∀ m e, I'.ι m = some e → I.ι m = some e ∧ m ≠ n ∧ m ∉ u) ∧ (∀ m, m ≠ n → m ∉ u → I'.ι m = I.ι m) ∧ (∀ c, B c → ∃ m e, (m = n ∨ m ∈ u) ∧ I.ι m = some e ∧ e.has c) ∧ (∀ m ∈ u, ∃ sz v, I.ι m = some (.row sz v)) := by
 unfold tT at h
 split at h
 ·rename_i cs hcs
  split at h
  ·rename_i y m hy
   simp only [ab, ah] at h
   obtain ⟨rfl, rfl⟩ := h
   obtain ⟨b, c, t, b1, b2, b3⟩ := hH.obj n cs hcs
   obtain ⟨⟨J, hL⟩, _⟩ := jx (ρ := nam0) hH rfl hy (vals := fun i => if i = 0 then .pointer (some ⟨b, 0, none⟩) else undef) (fun i => by
    cases i with
    | zero => exact .ptr n 0 [] b b1 trivial
    | succ i => exact .undef _) (gW I w (oG k) nam0 m) (C6 k)
   have hj : J.ι 0 = some (.obj b) := by
    have := hL.val 0
    cases this with | ptr _ _ _ b' h1 h2 => exact h1
   obtain ⟨n', e', o1, o2, o3, o4⟩ := hL.obj 0 (by simp)
   have hn' : n' = n := by
    have e3 : J.ι 0 = some e' := o3
    rw [hj] at e3
    simp only [ab] at e3
    subst e3
    exact hH.inj n' n _ _ b o2 b1 rfl rfl
   subst hn'
   have hsig : ∀ a, a ∈ m.σ.map (·.2) → a = n' := by
    intro a ha
    obtain ⟨⟨i, a'⟩, h1, h2⟩ := List.mem_map.1 ha
    simp only at h2
    subst h2
    have hi := hL.met _ h1
    have : i = 0 := by simpa using hi
    subst this
    have := eU hL.key h1 o1 rfl
    simpa using this
   have hH0 : ∀ q, (oG k).H nam0 y (fun _ => none) q = el nam0 1000 (k.map dz) y.2.1 (Heap.set (fun _ => none) 0 (some (.obj (iq nam0 1000 (k.map dz) y.2.1)))) q := by
    intro q
    show el nam0 1000 (k.map dz) y.2.1 (Heap.set (fun _ => none) 0 (some (qT nam0 1000 (k.map dz) y.2.1))) q = _
    rw [xh C5]
   have h00 : (0 : Nat) ∉ de nam0 1000 (k.map dz) := fun h => by have := ii h; omega
   have hne : ∀ q, q ≠ 0 → (oG k).H nam0 y (fun _ => none) q = el nam0 1000 (k.map dz) y.2.1 (fun _ => none) q := by
    intro q hq
    rw [hH0]
    exact fR (.inr (dS hq))
   have hxy : tf k (E3 k y.2.1) = y.2.1 := Cf k y.2.1
   have hu0 := (List.nodup_append.1 hL.nd).1
   have hd := hH.dels hu0 hL.rows
   have hnu : n' ∉ m.u := fun hm => by
    obtain ⟨sz, v, h1⟩ := hL.rows n' hm
    rw [b1] at h1
    cases h1
   have hb1 : (I.dels m.u).ι n' = some (.obj b) := by simp [In.dels, hnu, b1]
   obtain ⟨q1, q2⟩ := hd.delO hb1
   refine ⟨b, fun c => ∃ a e, J.ι a = some e ∧ e.has c, _, b1, ⟨J.ι, hj, ?_, ?_, ?_, hL.hr.inj, fun a e c h1 h2 => ⟨a, e, h1, h2⟩, ?_⟩, q1, LR.subO q2 (LR.dels hl hu0 hL.rows), rfl, fun a e ha => ?_, fun a ha hau => ?_, ?_, hL.rows⟩
   ·obtain ⟨b', c', t', k1, k2, k3⟩ := hL.hr.obj 0 (iq nam0 1000 (k.map dz) y.2.1) (by rw [hH0, eE h00, Heap.set_same])
    rw [hj] at k1
    simp only [ab, Ent.obj.injEq] at k1
    subst k1
    refine ⟨c', t', k2, ?_⟩
    rw [hxy, ← hL.R]
    exact k3
   ·intro a E s xs ha
    rw [hxy] at ha
    have ha0 : a ≠ 0 := by
     rintro rfl
     rw [eE h00] at ha
     cases ha
    rw [← hne a ha0] at ha
    obtain ⟨v, cs', k1, k2, k3⟩ := hL.hr.row a E s xs ha
    exact ⟨v, cs', k1, k2, by rw [← hL.R]; exact k3⟩
   ·intro a ha0 ha
    rw [hxy, ← hne a ha0] at ha
    exact hL.hr.dom a ha
   ·intro a t B' ha
    by_cases hm : a ∈ (oG k).names nam0
    ·rcases hL.row a _ hm ha with ⟨i, i1, i2, _⟩ | ⟨sz, v, h⟩
     ·have : i = 0 := by simpa using i1
      subst this
      subst i2
      rw [show J.ι (nam0.o 0) = some (.obj b) from hj] at ha
      cases ha
     ·cases h
    ·rw [hL.out a hm] at ha
     cases ha
   ·simp only [In.dropO] at ha
    split at ha
    ·cases ha
    ·rename_i han
     simp only [In.dels] at ha
     split at ha
     ·cases ha
     ·rename_i hau
      exact ⟨ha, han, hau⟩
   ·simp only [In.dropO, ha, aC, In.dels, hau]
   ·rintro c ⟨a, e, h1, h2⟩
    by_cases hm : a ∈ (oG k).names nam0
    ·obtain ⟨a', e', h3, h4, h5⟩ := hL.old a e c hm h1 h2
     exact ⟨a', e', h5.elim .inr fun h => .inl (hsig a' h), h3, h4⟩
    ·rw [hL.out a hm] at h1
     cases h1
  ·cases h
 ·cases h
end
end Go.Proofs.Dk
