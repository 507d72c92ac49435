/- A part of the proofs: Regions in any order: the proof. -/
import Derived.Test.YtmacohlmfghffaaGreatMB1
import Derived.Scope
import Derived.OpenShut
import Derived.ProofKit
import Derived.Deep.Slices
import Derived.Below
import Derived.SizedLaws
import Derived.Orders
import Derived.Deep.Draws
import Derived.Test.YtmacohlmfghffaaGreatProg
import Derived.Tactics2
import Derived.RowKit
import Derived.KernelRfl
import Derived.Maps.OwnSet
import Derived.BigFrame
import Derived.WideLaws
import Derived.WalkKit
import Derived.RowKit3
import Derived.OwnWalk
import Derived.OrdersHeld
import Derived.Maps.AppendAt
import Derived.Lib.ConvBytes
import Derived.Lib.AppendStr
import Derived.Laws.Slices
import Derived.Laws.Rows
import Derived.Laws.OwnMore
import Derived.Laws.MakeOwn
import Derived.Laws.IdiomCopy
import Derived.Laws.BytesArg
import Derived.Laws.BitsLemmas
import Derived.Deep.RegionHeld3
import Derived.Deep.QuietTactic
import Derived.Deep.OwnRows
import Derived.Deep.LoopGhost
import Derived.Deep.DeepCutAuto
import Derived.Deep.CutBlock
import Derived.Deep.AppendLies
import Derived.BigQuiet
import Derived.ArgAppend
/- Regions in any order: the proof. -/
namespace Go.Proofs.Dk
open Go Go.RowKit
set_option linter.unusedVariables false
set_option linter.unusedSimpArgs false
def cnt (S : Nat → Bool) : Nat → Nat
  | 0 => 0
  | n + 1 => cnt S n + (if S n then 0 else 1)
theorem cnt_congr {S S' : Nat → Bool} : ∀ {n : Nat}, (∀ i, i < n → S i = S' i) → cnt S n = cnt S' n
  | 0, _ => rfl
  | n + 1, h => by simp only [cnt]; rw [cnt_congr (fun i hi => h i (by omega)), h n (by omega)]
theorem cnt_put {S : Nat → Bool} {j : Nat} (hj : S j = false) : ∀ {n : Nat}, j < n → cnt (fun i => S i || i == j) n + 1 = cnt S n
  | 0, h => by omega
  | n + 1, h => by
    simp only [cnt]
    rcases Nat.lt_or_ge j n with h1 | h1
    · have := cnt_put hj h1
      have hne : (n == j) = false := by rw [beq_eq_false_iff_ne]; omega
      simp only [hne, Bool.or_false]
      omega
    · have : n = j := by omega
      subst this
      rw [cnt_congr (S := fun i => S i || i == n) (S' := S) (fun i hi => by
        have hne : (i == n) = false := by rw [beq_eq_false_iff_ne]; omega
        simp only [hne, Bool.or_false])]
      simp [hj]
theorem cnt_zero {S : Nat → Bool} : ∀ {n : Nat}, cnt S n = 0 → ∀ i, i < n → S i = true
  | n + 1, h, i, hi => by
    simp only [cnt] at h
    rcases Nat.lt_or_ge i n with h1 | h1
    · exact cnt_zero (by omega) i h1
    · have : i = n := by omega
      subst this
      cases hS : S i with
      | true => rfl
      | false => rw [hS] at h; simp at h
theorem cnt_none {S : Nat → Bool} (h : ∀ i, S i = false) : ∀ n, cnt S n = n
  | 0 => rfl
  | n + 1 => by simp only [cnt, cnt_none h n, h n]; rfl
theorem accS_none {S : Nat → Bool} : ∀ {l : List Rec} {m : Nat} {s : St}, (∀ i, m ≤ i → S i = false) → accS m S l s = s
  | [], _, _, _ => rfl
  | e :: r, m, s, h => by
    simp only [accS, h m (Nat.le_refl _), Bool.false_eq_true, if_false]
    exact accS_none (fun i hi => h i (by omega))
abbrev Lst (listed : Array Bool) : Nat → Bool := fun i => listed.getD i false
theorem lst_set {listed : Array Bool} {j : Nat} (h : j < listed.size) : Lst (listed.setIfInBounds j true) = fun i => Lst listed i || i == j := by
  funext i
  simp only [Lst, Array.getD_eq_getD_getElem?, Array.getElem?_setIfInBounds]
  by_cases e : j = i
  · subst e; simp [h]
  · have : (i == j) = false := by rw [beq_eq_false_iff_ne]; exact fun e' => e e'.symm
    simp [e, this]
theorem lst_true {listed : Array Bool} {j : Nat} (h : j < listed.size) : listed.getD j true = Lst listed j := by
  simp [Lst, h]
section
variable {α : Type} {cx : Cx} {call : CallK α} {d : Nat} {ops : Array Oper} {anc : List Nat} {k : K α} {r : α} {Q : Exit → Act → World → Prop}
theorem wpAny_ok (hcall : CallS cx.P call) (hsp : ∀ g S, S ∈ cx.specs g → SpecOk cx.P g S) (hp : ∀ g S, S ∈ cx.specs g → FS.pure S = true → PureOk cx.P g S) (htab : ∀ g t, cx.tabs g = some t → TabOk cx.P g t) (ha : ancs 0 ops.toList [] = some anc) (hstat : statOk ops anc = true) : ∀ (fuel : Nat) {listed : Array Bool} {m : Nat} {s0 : St} {rs : List Rec} {I : In} {w : World} {a : Act},
    listed.size = ops.size → cnt (Lst listed) ops.size = fuel → (∀ j, Lst listed j = true → Aft ops listed j) → (∀ i, i < m → Lst listed i = true) → (∀ i, m + rs.length ≤ i → Lst listed i = false) → Seg cx d ops anc m s0 rs → Tail cx call d ops anc k r (m + rs.length) (accA rs s0).1 (accA rs s0).2 →
    TR I w (accS m (Lst listed) rs s0).1 a → HR I w (accS m (Lst listed) rs s0).2 → (∀ I' w' T' H' a', Ext I w I' w' → HR I' w' H' → TR I' w' T' a' → k T' H' = some r → Q .normal a' w') → wpAny cx.P .any ops Q fuel listed a w := by
  intro fuel
  have done : ∀ {listed : Array Bool} {m : Nat} {s0 : St} {rs : List Rec} {I : In} {w : World} {a : Act}, listed.size = ops.size → (∀ i, i < ops.size → Lst listed i = true) → (∀ i, m + rs.length ≤ i → Lst listed i = false) → Tail cx call d ops anc k r (m + rs.length) (accA rs s0).1 (accA rs s0).2 → Seg cx d ops anc m s0 rs →
      TR I w (accS m (Lst listed) rs s0).1 a → HR I w (accS m (Lst listed) rs s0).2 → (∀ I' w' T' H' a', Ext I w I' w' → HR I' w' H' → TR I' w' T' a' → k T' H' = some r → Q .normal a' w') → Q .normal a w := by
    intro listed m s0 rs I w a hsz hall hpost ht hs hT hH hQ
    have hacc : accS m (Lst listed) rs s0 = accA rs s0 := accS_all fun i hi => by
      have := hs.op i rs[i] (List.getElem?_eq_getElem hi)
      have := (List.getElem?_eq_some_iff.1 this).1
      exact hall (m + i) (by simpa using this)
    rw [hacc] at hT hH
    rcases ht with ⟨_, h⟩ | ⟨o, rest, h, _⟩
    · exact hQ I w _ _ a (Ext.refl I w) hH hT h
    · obtain ⟨h1, _⟩ := drop_cons h
      have h2 := (List.getElem?_eq_some_iff.1 h1).1
      have h3 := hall (m + rs.length) (by simpa using h2)
      rw [hpost _ (Nat.le_refl _)] at h3
      cases h3
  have allOf : ∀ {listed : Array Bool}, listed.size = ops.size → Region.ready .any ops listed = [] → ∀ i, i < ops.size → Lst listed i = true := by
    intro listed hsz hr
    intro i
    induction i using Nat.strongRecOn with
    | _ i ih =>
      intro hi
      cases hS : Lst listed i with
      | true => rfl
      | false =>
        obtain ⟨_, hsp⟩ := ancs_spec ha rfl
        obtain ⟨h1, _⟩ := hsp i ops[i] (by simp [hi])
        have : i ∈ Region.ready .any ops listed := by
          rw [mem_ready]
          refine ⟨by rw [lst_true (by omega)]; exact hS, ops[i], by simp [hi], fun e he hb => ?_⟩
          have := h1 e (Array.mem_toList_iff.2 he) hb
          exact ih e.on (by omega) (by omega)
        rw [hr] at this
        cases this
  induction fuel with
  | zero =>
    intro listed m s0 rs I w a hsz hcnt hcl hpre hpost hs ht hT hH hQ
    have hall := cnt_zero hcnt
    refine ⟨?_, done hsz hall hpost ht hs hT hH hQ⟩
    rw [List.eq_nil_iff_forall_not_mem]
    intro i hi
    rw [mem_ready] at hi
    obtain ⟨h1, o, ho, _⟩ := hi
    have := (Array.getElem?_eq_some_iff.1 ho).1
    rw [lst_true (by omega), hall i this] at h1
    cases h1
  | succ fuel ih =>
    intro listed m s0 rs I w a hsz hcnt hcl hpre hpost hs ht hT hH hQ
    refine ⟨fun hr => done hsz (allOf hsz hr) hpost ht hs hT hH hQ, fun i hi => ?_⟩
    rw [mem_ready] at hi
    obtain ⟨hun, o, ho, haft⟩ := hi
    have hlt := (Array.getElem?_eq_some_iff.1 ho).1
    rw [lst_true (by omega)] at hun
    have hA : Aft ops listed i := fun o' ho' e he hb => by
      rw [ho] at ho'
      simp only [Option.some.injEq] at ho'
      subst ho'
      exact haft e he hb
    have hanc := anc_listed ha hcl i i (Nat.le_refl _) hlt hA
    have hset := lst_set (listed := listed) (j := i) (by omega)
    have hcl' : ∀ j, Lst (listed.setIfInBounds i true) j = true → Aft ops (listed.setIfInBounds i true) j := by
      intro j hj o' ho' e he hb
      rw [hset] at hj
      simp only [Bool.or_eq_true, beq_iff_eq] at hj
      rcases hj with hj | rfl
      · exact getD_set_true (hcl j hj o' ho' e he hb)
      · exact getD_set_true (hA o' ho' e he hb)
    have hcnt' : cnt (Lst (listed.setIfInBounds i true)) ops.size = fuel := by
      have := cnt_put hun hlt
      rw [hset]
      omega
    have him : m ≤ i := by
      rcases Nat.lt_or_ge i m with h | h
      · rw [hpre i h] at hun; cases hun
      · exact h
    rcases Nat.lt_or_ge i (m + rs.length) with hiq | hiq
    · obtain ⟨j, rfl⟩ : ∃ j, i = m + j := ⟨i - m, by omega⟩
      have hj : j < rs.length := by omega
      have hje : rs[j]? = some rs[j] := List.getElem?_eq_getElem hj
      generalize rs[j] = e at hje
      have heo : e.o = o := by
        have := hs.op j e hje
        simp only [Array.getElem?_toList] at this
        rw [ho] at this
        simpa using this.symm
      have hap1 : ∀ i f, i < j → rs[i]? = some f → Lst listed (m + i) = false → apartD d ops f.did e.did = true := fun i f hi hf hu => by
        rcases hs.ap j e i f hi hf hje with h | h
        · rw [show Lst listed (m + i) = true from hanc _ h] at hu; cases hu
        · exact h
      have hap2 : ∀ k f, j < k → rs[k]? = some f → Lst listed (m + k) = true → apartD d ops e.did f.did = true := fun k f hk hf hl => by
        rcases hs.ap k f j e hk hje hf with h | h
        · have hkl : m + k < ops.size := by
            have := (List.getElem?_eq_some_iff.1 (hs.op k f hf)).1
            simpa using this
          have := anc_listed ha hcl (m + k) (m + k) (Nat.le_refl _) hkl (hcl _ hl) _ h
          rw [show Lst listed (m + j) = true from this] at hun
          cases hun
        · exact h
      have hfe := hs.fit j e hje
      have hagr := accS_agr (L := e.o.looksAt ops) (N := fun n => n ∈ e.r ∨ inBase d e.o n = true) (s := s0) hje hun (fun i f h1 h2 h3 => off_left (hs.fit i f h2) (hap1 i f h1 h2 h3)) (fun k f h1 h2 h3 => off_right hfe (hs.fit k f h2) (hap2 k f h1 h2 h3))
      have hput := accS_put (s := s0) hje hun (fun k f h1 h2 h3 => com_of hfe (hs.fit k f h2) (hap2 k f h1 h2 h3))
      rw [← hset] at hput
      have fin : ∀ {K : Act → World → Prop}, (∀ I' w' u, Ext I w I' w' → HR I' w' ((accS m (Lst listed) rs s0).2.act2 e.act) → TR I' w' (putT (dropsL e.act.u (accS m (Lst listed) rs s0).1) e.o.dst e.v) (a.put e.o.dst u) → K (a.put e.o.dst u) w') → if Region.wanted e.o (yielded ops a.tmps) then e.o.wp cx.P a w K Q ∨ (e.o.asks cx.P a w ∧ LetsOut Q) else K (a.put e.o.dst undef) w := by
        intro K hk
        rcases hs.st j e hje with ⟨hst, hr⟩ | ⟨hst, hr⟩ | ⟨hst, hr⟩
        · rw [hr] at hagr
          exact stepE_ok hp htab hT hH (stepE_loc hagr hst) hk
        · exact stepS_ok hsp hT hH (stepS_loc ⟨hagr.1, hagr.2.1, fun n hn => hagr.2.2 n (.inl (by rw [hr]; exact hn))⟩ hst) hk
        · exact stepA_ok hT hH (stepA_loc ⟨hagr.1, hagr.2.1, fun n hn => hagr.2.2 n (.inl (by rw [hr]; exact hn))⟩ hst) hk
      unfold wpOp
      rw [ho]
      simp only
      rw [← heo]
      refine fin fun I' w' u he hH' hT' => ?_
      refine ih (m := m) (s0 := s0) (rs := rs) (I := I') (by simpa using hsz) hcnt' hcl' (fun i hi => ?_) (fun i hi => ?_) hs ht (by rw [hput]; exact hT') (by rw [hput]; exact hH') (fun I2 w2 T2 H2 a2 he2 => hQ I2 w2 T2 H2 a2 (he.trans he2))
      · rw [hset]
        simp only [Bool.or_eq_true]
        exact .inl (hpre i hi)
      · rw [hset]
        simp only [Bool.or_eq_false_iff, beq_eq_false_iff_ne]
        exact ⟨hpost i hi, by omega⟩
    · rcases ht with ⟨h0, _⟩ | ⟨o', rest, h0, hbar, hw, hgo⟩
      · have := congrArg List.length h0
        simp at this
        omega
      · obtain ⟨h1, h2⟩ := drop_cons h0
        unfold barOk at hbar
        simp only [Bool.and_eq_true, List.all_eq_true, List.mem_range, Bool.or_eq_true, decide_eq_true_eq] at hbar
        have hiq' : i = m + rs.length := by
          rcases Nat.lt_or_ge (m + rs.length) i with h | h
          · rcases hbar.2 i hlt with h' | h'
            · omega
            · have := hanc _ h'
              rw [show listed.getD (m + rs.length) false = false from hpost _ (Nat.le_refl _)] at this
              cases this
          · omega
        subst hiq'
        have hoo : o' = o := by
          rw [Array.getElem?_toList, ho] at h1
          simpa using h1.symm
        subst hoo
        have hacc : accS m (Lst listed) rs s0 = accA rs s0 := accS_all fun i hi => hanc _ (hbar.1 (m + i) (by omega))
        rw [hacc] at hT hH
        have next : ∀ {I' : In} {w' : World} {T' : List DV} {H' : Heap} {a' : Act}, Ext I w I' w' → HR I' w' H' → TR I' w' T' a' → evOpsD cx call d ops anc rest (m + rs.length + 1) true [] T' H' k = some r → wpAny cx.P .any ops Q fuel (listed.setIfInBounds (m + rs.length) true) a' w' := by
          intro I' w' T' H' a' he hH' hT' hev
          obtain ⟨rs', hs', ht'⟩ := collect hstat (m := m + rs.length + 1) (s0 := (T', H')) (rs := []) (by simpa using h2) rfl (fun i e h => by simp at h) (fun _ e h => by simp at h) Seg.nil hev
          have hnone : ∀ i, m + rs.length + 1 ≤ i → Lst (listed.setIfInBounds (m + rs.length) true) i = false := by
            intro i hi
            rw [hset]
            simp only [Bool.or_eq_false_iff, beq_eq_false_iff_ne]
            exact ⟨hpost i (by omega), by omega⟩
          have h0 : accS (m + rs.length + 1) (Lst (listed.setIfInBounds (m + rs.length) true)) rs' (T', H') = (T', H') := accS_none hnone
          refine ih (m := m + rs.length + 1) (s0 := (T', H')) (rs := rs') (I := I') (by simpa using hsz) hcnt' hcl' (fun i hi => ?_) (fun i hi => hnone i (by omega)) hs' ht' (by rw [h0]; exact hT') (by rw [h0]; exact hH') (fun I2 w2 T2 H2 a2 he2 => hQ I2 w2 T2 H2 a2 (he.trans he2))
          rw [hset]
          simp only [Bool.or_eq_true, beq_iff_eq]
          rcases Nat.lt_or_ge i (m + rs.length) with h | h
          · exact .inl (hanc _ (hbar.1 i h))
          · exact .inr (by omega)
        unfold wpOp
        rw [ho]
        simp only
        rw [wantD_ok hT hw, if_pos rfl]
        refine .inl ?_
        rcases hgo with ⟨c, f, g, x, y, k1, k2, k3, k4⟩ | hgo
        · exact callStep hcall (sp := rawArgs g) (k := fun T H => evOpsD cx call d ops anc rest (m + rs.length + 1) true [] T H k) hT hH k1 k2 k3 k4 fun I' w' T' H' u he hH' hT' h' => next he hH' hT' h'
        · obtain ⟨T', H', h1, h2⟩ := opK_ok hT hH hgo
          exact h2.wp fun I' w' u he hH' hT' => next he hH' hT' h1
theorem Same.world {I : In} {w w' : World} (h : w'.heap = w.heap) : Same I I w w' := ⟨⟨fun _ h => h, fun b _ => by rw [h]⟩, fun _ _ h => h, fun _ _ _ h => h⟩
theorem HR.world {I : In} {w w' : World} {H : Heap} (h : w'.heap = w.heap) (hH : HR I w H) : HR I w' H :=
  HR.of (fun n b hb => (hH.br hb).keep (Same.world h) (fun e g _ _ => by rw [h])) hH.dom (fun n e b h1 h2 => by rw [h]; exact hH.lt n e b h1 h2) hH.inj (fun b hb => by rw [h]; exact hH.rlt b hb)
theorem evOpsD_ok (hcall : CallS cx.P call) (hsp : ∀ g S, S ∈ cx.specs g → SpecOk cx.P g S) (hp : ∀ g S, S ∈ cx.specs g → FS.pure S = true → PureOk cx.P g S) (htab : ∀ g t, cx.tabs g = some t → TabOk cx.P g t) (hf : cx.P.follows .mixedOrders = true) (ha : ancs 0 ops.toList [] = some anc) (hstat : statOk ops anc = true) {I : In} {w : World} {T : List DV} {a : Act} {H : Heap} {id : Nat} (hT : TR I w T a) (hH : HR I w H) (h : evOpsD cx call d ops anc ops.toList 0 true [] T H k = some r)
    (hQ : ∀ I' w' T' H' a', Ext I w I' w' → HR I' w' H' → TR I' w' T' a' → k T' H' = some r → Q .normal a' w') : (Code.region id ops true).wp cx.P Q a w := by
  refine wp_region_any hf ?_
  obtain ⟨rs', hs', ht'⟩ := collect hstat (m := 0) (s0 := (T, H)) (rs := []) (by simp) rfl (fun i e h => by simp at h) (fun _ e h => by simp at h) Seg.nil h
  have hn : ∀ i, Lst (Array.replicate ops.size false) i = false := by
    intro i
    simp only [Lst, Array.getD_eq_getD_getElem?, Array.getElem?_replicate]
    split <;> rfl
  have h0 : accS 0 (Lst (Array.replicate ops.size false)) rs' (T, H) = (T, H) := accS_none fun i _ => hn i
  refine wpAny_ok hcall hsp hp htab ha hstat ops.size (m := 0) (s0 := (T, H)) (rs := rs') (I := I) (by simp) (cnt_none hn _) (fun j hj => by rw [hn j] at hj; cases hj) (fun i hi => by omega) (fun i _ => hn i) hs' ht' ?_ ?_ ?_
  · rw [h0]; exact TR.keep (w := w) (Same.world (w := w) rfl) hT
  · rw [h0]; exact HR.world (w := w) rfl hH
  · intro I' w' T' H' a' he
    exact hQ I' w' T' H' a' ⟨he.obj, he.ro, he.same, he.own, he.newR, he.size, he.os, he.tape, he.output⟩
end
end Go.Proofs.Dk

/- Pieces of code; calls. -/
namespace Go.Proofs.Dk
open Go Go.RowKit
set_option linter.unusedVariables false
set_option linter.unusedSimpArgs false
def ExR : Ex → Exit → Prop
  | .norm, .normal => True
  | .exit i, .exit j => i = j
  | .goto i, .goto j => i = j
  | .ret, .ret => True
  | _, _ => False
section
variable {α : Type} {P : Program} {I : In} {w : World} {T : List DV} {a : Act} {H : Heap}
def PostC (I : In) (w : World) (k : Ex → List DV → Heap → Option α) (r : α) : Exit → Act → World → Prop := fun e a' w' => ∃ I' T' H' x, ExR x e ∧ Ext I w I' w' ∧ HR I' w' H' ∧ TR I' w' T' a' ∧ k x T' H' = some r
theorem PostC.ext {I I1 : In} {w w1 : World} {k : Ex → List DV → Heap → Option α} {r : α} (h : Ext I w I1 w1) {e : Exit} {a' : Act} {w' : World} (hp : PostC I1 w1 k r e a' w') : PostC I w k r e a' w' := by
  obtain ⟨I', T', H', x, h1, h2, h3⟩ := hp
  exact ⟨I', T', H', x, h1, h.trans h2, h3⟩
def LoopOk (P : Program) (L : Loop) (c : Code) : Prop := ∀ {α : Type} {I : In} {w : World} {T : List DV} {a : Act} {H : Heap} {b : Nat} {k : Ex → List DV → Heap → Option α} {r : α}, TR I w T a → HR I w H → loopK L b T H k = some r → c.wp P (PostC I w k r) a w
def loopsOf : Code → List (Nat × Code)
  | .seq a b => (jId b, a) :: (loopsOf a ++ loopsOf b)
  | .cond _ a b => loopsOf a ++ loopsOf b
  | .block _ c => loopsOf c
  | .loop c => (firstRegion c, .loop c) :: loopsOf c
  | .scope c => loopsOf c
  | _ => []
structure Good (cx : Cx) : Prop where
  specs : ∀ f S, S ∈ cx.specs f → SpecOk cx.P f S
  loops : ∀ f id L, cx.loops f id = some L → ∀ fn c c', cx.P.funcs[f]? = some fn → fn.body = some c → (id, c') ∈ loopsOf c → LoopOk cx.P L c'
  pures : ∀ f S, S ∈ cx.specs f → FS.pure S = true → PureOk cx.P f S
  tabs : ∀ f t, cx.tabs f = some t → TabOk cx.P f t
theorem wp_loop_fuel {c : Code} {Q : Exit → Act → World → Prop} {a : Act} {w : World} {n : Nat} (Inv : Nat → Act → World → Prop) (h0 : Inv n a w) (hz : ∀ a w, ¬ Inv 0 a w) (hs : ∀ n a w, Inv (n + 1) a w → c.wp P (Exit.then (Inv n) Q) a w) : (Code.loop c).wp P Q a w := by
  have least : ∀ (p : Nat → Prop) (n : Nat), p n → ∃ m, p m ∧ ∀ k, p k → m ≤ k := by
    intro p n
    induction n using Nat.strongRecOn with
    | _ n ih =>
      intro hn
      by_cases h : ∃ m, m < n ∧ p m
      · obtain ⟨m, h1, h2⟩ := h
        exact ih m h1 h2
      · refine ⟨n, hn, fun k hk => ?_⟩
        rcases Nat.lt_or_ge k n with h1 | h1
        · exact absurd ⟨k, h1, hk⟩ h
        · exact h1
  have hμ : ∀ p : Act × World, ∃ m : Nat, (∃ n, Inv n p.1 p.2) → Inv m p.1 p.2 ∧ ∀ k, Inv k p.1 p.2 → m ≤ k := by
    intro p
    by_cases h : ∃ n, Inv n p.1 p.2
    · obtain ⟨n, hn⟩ := h
      obtain ⟨m, h1, h2⟩ := least (fun n => Inv n p.1 p.2) n hn
      exact ⟨m, fun _ => ⟨h1, h2⟩⟩
    · exact ⟨0, fun h' => absurd h' h⟩
  obtain ⟨μ, hμ⟩ := Classical.axiomOfChoice hμ
  refine wp_loop (fun a w => ∃ n, Inv n a w) (fun a w => μ (a, w)) ⟨n, h0⟩ ?_
  intro a w h
  obtain ⟨hf, _⟩ := hμ (a, w) h
  show c.wp P (Exit.then (fun a' w' => (∃ n, Inv n a' w') ∧ μ (a', w') < μ (a, w)) Q) a w
  generalize μ (a, w) = m at hf
  cases m with
  | zero => exact absurd hf (hz a w)
  | succ m =>
    refine Code.wp_mono ?_ (hs m a w hf)
    intro e a' w' he
    cases e with
    | normal => exact ⟨⟨m, he⟩, Nat.lt_succ_of_le ((hμ (a', w') ⟨m, he⟩).2 m he)⟩
    | _ => exact he
theorem cond_fix {c : Operand} {t : Bool} (h : evO T c = .sc (.bool t)) : fixT c t T = T := by
  cases c with
  | tmp i => exact TR.fix h (by simp)
  | _ => rfl
variable {cx : Cx} {call : CallK α}
theorem unroll_ok {c : Code} {body : List DV → Heap → (Ex → List DV → Heap → Option α) → Option α} (hb : ∀ {I : In} {w : World} {T : List DV} {a : Act} {H : Heap} {k : Ex → List DV → Heap → Option α} {r : α}, TR I w T a → HR I w H → body T H k = some r → c.wp P (PostC I w k r) a w) {n : Nat} {k : Ex → List DV → Heap → Option α} {r : α} (hT : TR I w T a) (hH : HR I w H) (h : unroll body n T H k = some r) : (Code.loop c).wp P (PostC I w k r) a w := by
  refine wp_loop_fuel (n := n) (fun n a' w' => ∃ I' T' H', Ext I w I' w' ∧ HR I' w' H' ∧ TR I' w' T' a' ∧ unroll body n T' H' k = some r) ⟨I, T, H, Ext.refl I w, hH, hT, h⟩ ?_ ?_
  · rintro a w ⟨I', T', H', _, _, _, h⟩
    cases h
  · rintro n a1 w1 ⟨I1, T1, H1, he, hH1, hT1, h1⟩
    simp only [unroll] at h1
    refine Code.wp_mono ?_ (hb hT1 hH1 h1)
    rintro e a2 w2 ⟨I2, T2, H2, x, hx, he2, hH2, hT2, h2⟩
    cases e <;> cases x <;> first | exact hx.elim | skip
    · exact ⟨I2, T2, H2, he.trans he2, hH2, hT2, h2⟩
    · exact ⟨I2, T2, H2, _, hx, he.trans he2, hH2, hT2, h2⟩
    · exact ⟨I2, T2, H2, _, hx, he.trans he2, hH2, hT2, h2⟩
    · exact ⟨I2, T2, H2, _, hx, he.trans he2, hH2, hT2, h2⟩
theorem evCode_ok (hg : Good cx) (hcall : CallS cx.P call) {f d : Nat} : ∀ (c : Code), (∀ id L, cx.loops f id = some L → ∀ c', (id, c') ∈ loopsOf c → LoopOk cx.P L c') → ∀ {I : In} {w : World} {T : List DV} {a : Act} {H : Heap} {k : Ex → List DV → Heap → Option α} {r : α}, TR I w T a → HR I w H → evCode cx call f d c T H k = some r → c.wp cx.P (PostC I w k r) a w := by
  intro c
  induction c with
  | skip => intro hl I w T a H k r hT hH h; exact wp_skip ⟨I, T, H, .norm, trivial, Ext.refl I w, hH, hT, h⟩
  | label l => intro hl I w T a H k r hT hH h; exact wp_label ⟨I, T, H, .norm, trivial, Ext.refl I w, hH, hT, h⟩
  | exit id => intro hl I w T a H k r hT hH h; exact wp_exit ⟨I, T, H, .exit id, rfl, Ext.refl I w, hH, hT, h⟩
  | goto l => intro hl I w T a H k r hT hH h; exact wp_goto ⟨I, T, H, .goto l, rfl, Ext.refl I w, hH, hT, h⟩
  | ret => intro hl I w T a H k r hT hH h; exact wp_ret ⟨I, T, H, .ret, trivial, Ext.refl I w, hH, hT, h⟩
  | refuse s => intro hl I w T a H k r hT hH h; cases h
  | rangeFunc _ _ _ _ _ _ => intro hl I w T a H k r hT hH h; cases h
  | region id ops draw =>
    intro hl I w T a H k r hT hH h
    simp only [evCode] at h
    cases draw with
    | true =>
      simp only [if_true] at h
      split at h
      · rename_i anc ha
        split at h
        · rename_i hf
          rw [Bool.and_eq_true] at hf
          exact evOpsD_ok hcall hg.specs hg.pures hg.tabs hf.1 ha hf.2 hT hH h fun I' w' T' H' a' he hH' hT' h' => ⟨I', T', H', .norm, trivial, he, hH', hT', h'⟩
        · cases h
      · cases h
    | false =>
      simp only [Bool.false_eq_true, if_false] at h
      exact wp_region_list (evOps_ok hcall hT hH h fun I' w' T' H' a' he hH' hT' h' => ⟨I', T', H', .norm, trivial, he, hH', hT', h'⟩)
  | seq x y ihx ihy =>
    intro hl I w T a H k r hT hH h
    simp only [evCode] at h
    have key : x.wp cx.P (PostC I w (fun e T H => seqK (evCode cx call f d y) k e T H) r) a w := by
      split at h
      · rename_i L hL
        unfold joinOf at hL
        split at hL
        · rename_i L' hL'
          split at hL
          · simp only [Option.some.injEq] at hL
            subst hL
            exact hl _ _ hL' x (List.mem_cons_self ..) hT hH h
          · cases hL
        · cases hL
      · exact ihx (fun id L hL c' hc => hl id L hL c' (List.mem_cons_of_mem _ (List.mem_append_left _ hc))) hT hH h
    refine wp_seq (Code.wp_mono ?_ key)
    rintro e a2 w2 ⟨I2, T2, H2, x', hx, he2, hH2, hT2, h2⟩
    cases e <;> cases x' <;> first | exact hx.elim | skip
    · exact Code.wp_mono (fun e a w hp => PostC.ext he2 hp) (ihy (fun id L hL c' hc => hl id L hL c' (List.mem_cons_of_mem _ (List.mem_append_right _ hc))) hT2 hH2 h2)
    · exact ⟨I2, T2, H2, _, hx, he2, hH2, hT2, h2⟩
    · exact ⟨I2, T2, H2, _, hx, he2, hH2, hT2, h2⟩
    · exact ⟨I2, T2, H2, _, hx, he2, hH2, hT2, h2⟩
  | cond c x y ihx ihy =>
    intro hl I w T a H k r hT hH h
    simp only [evCode] at h
    split at h
    · rename_i t ht
      have hv := evO_ok hT c
      rw [ht] at hv
      refine wp_cond hv.sc_eq ?_
      cases t with
      | true =>
        simp only [if_true, cond_fix ht] at h ⊢
        exact ihx (fun id L hL c' hc => hl id L hL c' (List.mem_append_left _ hc)) hT hH h
      | false =>
        simp only [Bool.false_eq_true, if_false, cond_fix ht] at h ⊢
        exact ihy (fun id L hL c' hc => hl id L hL c' (List.mem_append_right _ hc)) hT hH h
    · cases h
  | block id c ih =>
    intro hl I w T a H k r hT hH h
    simp only [evCode] at h
    refine wp_block (Code.wp_mono ?_ (ih hl hT hH h))
    rintro e a2 w2 ⟨I2, T2, H2, x', hx, he2, hH2, hT2, h2⟩
    cases e <;> cases x' <;> first | exact hx.elim | skip
    · exact ⟨I2, T2, H2, .norm, trivial, he2, hH2, hT2, h2⟩
    · rename_i i j
      have : j = i := hx
      subst this
      simp only [Exit.inBlock] at *
      split at h2
      · rename_i hj
        rw [if_pos hj]
        exact ⟨I2, T2, H2, .norm, trivial, he2, hH2, hT2, h2⟩
      · rename_i hj
        rw [if_neg hj]
        exact ⟨I2, T2, H2, .exit j, rfl, he2, hH2, hT2, h2⟩
    · exact ⟨I2, T2, H2, _, hx, he2, hH2, hT2, h2⟩
    · exact ⟨I2, T2, H2, _, hx, he2, hH2, hT2, h2⟩
  | loop c ih =>
    intro hl I w T a H k r hT hH h
    simp only [evCode] at h
    split at h
    · rename_i L hL
      exact hl _ L hL _ (List.mem_cons_self ..) hT hH h
    · exact unroll_ok (fun hT hH h => ih (fun id L hL c' hc => hl id L hL c' (List.mem_cons_of_mem _ hc)) hT hH h) hT hH h
  | scope c ih =>
    intro hl I w T a H k r hT hH h
    simp only [evCode] at h
    refine wp_scope_straight (Code.wp_mono ?_ (ih hl hT hH h))
    rintro e a2 w2 ⟨I2, T2, H2, x', hx, he2, hH2, hT2, h2⟩
    cases e <;> cases x' <;> first | exact hx.elim | skip
    · exact ⟨I2, T2, H2, _, hx, he2, hH2, hT2, h2⟩
    · exact ⟨I2, T2, H2, _, hx, he2, hH2, hT2, h2⟩
    · cases h2
    · exact ⟨I2, T2, H2, _, hx, he2, hH2, hT2, h2⟩
end
end Go.Proofs.Dk

/- Calls. -/
namespace Go.Proofs.Dk
open Go Go.RowKit
set_option linter.unusedVariables false
set_option linter.unusedSimpArgs false
section
variable {α : Type} {P : Program} {I : In} {w : World} {T : List DV} {a : Act} {H : Heap}
def resF (tmps : Array Value) : ResultVar → Sem Value
  | .tmp t => pure (tmps.getD t undef)
  | .cell x t => do loadVar t (← asAddr (tmps.getD x undef))
theorem resD_ok (hT : TR I w T a) (hH : HR I w H) : ∀ {l : List ResultVar} {vs : List DV}, resD P T H l = some vs → ∃ zs : List Value, (l.mapM (resF a.tmps)).run P w = .ok zs w ∧ LR I w vs zs
  | [], vs, h => by
    simp only [resD, Option.some.injEq] at h
    subst h
    exact ⟨[], rfl, .nil⟩
  | .tmp t :: r, vs, h => by
    simp only [resD] at h
    split at h
    · rename_i l hl
      simp only [Option.some.injEq] at h
      subst h
      obtain ⟨zs, h1, h2⟩ := resD_ok hT hH hl
      refine ⟨a.tmps.getD t undef :: zs, ?_, .cons _ _ _ _ (hT.val t) h2⟩
      simp only [List.mapM_cons, Sem.run_bind, resF]
      rw [show (pure (a.tmps.getD t undef) : Sem Value).run P w = .ok (a.tmps.getD t undef) w from rfl]
      show ((List.mapM (resF a.tmps) r).run P w).andThen _ = _
      rw [h1]
      rfl
    · cases h
  | .cell x t :: r, vs, h => by
    simp only [resD] at h
    split at h
    · rename_i v l hv hl
      simp only [Option.some.injEq] at h
      subst h
      obtain ⟨zs, h1, h2⟩ := resD_ok hT hH hl
      obtain ⟨ad, u, g1, g2, g3⟩ := load_at (hT.val x) hH hv
      refine ⟨u :: zs, ?_, .cons _ _ _ _ g3 h2⟩
      simp only [List.mapM_cons, Sem.run_bind, resF]
      rw [g1]
      show (((loadVar t ad).run P w).andThen fun a_1 w' => ((List.mapM (resF a.tmps) r).run P w').andThen fun a w' => (pure (a_1 :: a) : Sem (List Value)).run P w') = _
      rw [g2]
      show ((List.mapM (resF a.tmps) r).run P w).andThen _ = _
      rw [h1]
      rfl
    · cases h
theorem results_ok {fn : Func} {vs : List DV} (hT : TR I w T a) (hH : HR I w H) (h : resD P T H fn.results.toList = some vs) : ∃ z, (results fn a.tmps).run P w = .ok z w ∧ VR I w (tupD vs) z := by
  obtain ⟨zs, h1, h2⟩ := resD_ok (P := P) hT hH h
  rw [show results fn a.tmps = (do let vs ← fn.results.mapM (resF a.tmps); pure (if h : vs.size = 1 then vs[0] else .tuple vs)) from rfl, Array.mapM_eq_mapM_toList]
  have h3 : ((List.toArray <$> (fn.results.toList.mapM (resF a.tmps))) : Sem (Array Value)).run P w = .ok zs.toArray w := by
    rw [map_eq_pure_bind, Sem.run_bind, h1]
    rfl
  refine ⟨_, by rw [Sem.run_bind, h3]; rfl, ?_⟩
  cases h2 with
  | nil => exact .tup [] #[] .nil
  | cons d r u us hd hr => cases hr with
    | nil => exact hd
    | cons d' r' u' us' hd' hr' => exact .tup _ _ (.cons _ _ _ _ hd (.cons _ _ _ _ hd' hr'))
theorem specK_some : ∀ {l : List FS} {A : List DV} {b : Nat} {k : DV → Heap → Option (List Nat) → Option α} {q : Option α}, specK l A H b k = some q → ∃ S X m, S ∈ l ∧ S.tin.pr ⟨[], []⟩ A H = some (X, m) ∧ q = (S.fn X).bind fun y => if S.tout.free (outNam (Heap.drops m.u H) b m) ((Heap.drops m.u H).away m) = true then k (tupD (S.tout.T (outNam (Heap.drops m.u H) b m) (S.out y))) (S.tout.H (outNam (Heap.drops m.u H) b m) (S.out y) ((Heap.drops m.u H).away m)) (some m.u) else none
  | [], A, b, k, q, h => by cases h
  | S :: l, A, b, k, q, h => by
    simp only [specK] at h
    split at h
    · rename_i X m hX
      simp only [Option.some.injEq] at h
      exact ⟨S, X, m, by simp, hX, h.symm⟩
    · obtain ⟨S', X, m, h1, h2⟩ := specK_some h
      exact ⟨S', X, m, List.mem_cons_of_mem _ h1, h2⟩
theorem LR.length : ∀ {ds : List DV} {vs : List Value}, LR I w ds vs → ds.length = vs.length
  | _, _, .nil => rfl
  | _, _, .cons d r u vs h hr => by simp [LR.length hr]
theorem LR.getD : ∀ {ds : List DV} {vs : List Value} (i : Nat), LR I w ds vs → VR I w (ds.getD i .undef) (vs.getD i undef)
  | _, _, _, .nil => .undef _
  | _, _, 0, .cons d r u vs h hr => h
  | _, _, i + 1, .cons d r u vs h hr => by simpa using LR.getD i hr
theorem frame_ok {A : List DV} {args : List Value} {n : Nat} (hl : A.length ≤ args.length) (hA : ∀ i, VR I w (A.getD i .undef) (args.getD i undef)) : TR I w (A ++ List.replicate (n - A.length) .undef) { tmps := args.toArray ++ Array.replicate (n - args.toArray.size) undef, defers := [] } := by
  refine ⟨by simp; omega, fun i => ?_, rfl⟩
  rcases Nat.lt_or_ge i A.length with h | h
  · have := hA i
    simp only [List.getD_eq_getElem?_getD, Array.getD_eq_getD_getElem?] at this ⊢
    rw [List.getElem?_append_left h, Array.getElem?_append_left (by simp; omega)]
    simpa using this
  · have : (A ++ List.replicate (n - A.length) DV.undef).getD i .undef = .undef := by
      rw [List.getD_eq_getElem?_getD, List.getElem?_append_right h, List.getElem?_replicate]
      split <;> rfl
    rw [this]
    exact .undef _
variable {cx : Cx} {call : CallK α}
theorem bodyK_ok (hg : Good cx) (hcall : CallS cx.P call) {d : Nat} {f : FuncId} {A : List DV} {args : List Value} {k : DV → Heap → Option α} {r : α} (hH : HR I w H) (hl : A.length ≤ args.length) (hA : ∀ i, VR I w (A.getD i .undef) (args.getD i undef)) (h : bodyK cx call f d A H k = some r) :
    Calls cx.P f args.toArray w (retP fun z w' => ∃ I' v H', k v H' = some r ∧ Ext I w I' w' ∧ HR I' w' H' ∧ VR I' w' v z) := by
  unfold bodyK at h
  split at h
  · rename_i fn hf
    split at h
    · rename_i c hb
      refine calls_of_wp hf hb (Code.wp_mono ?_ (evCode_ok hg hcall c (fun id L hL c' hc => hg.loops f id L hL fn c c' hf hb hc) (frame_ok (n := fn.ntmps) hl hA) hH h))
      rintro e a' w' ⟨I', T', H', x, hx, he, hH', hT', h'⟩
      have fin : (match resD cx.P T' H' fn.results.toList with | some vs => k (tupD vs) H' | none => none) = some r → a'.defers = [] ∧ ∃ v, (results fn a'.tmps).run cx.P w' = .ok v w' ∧ ∃ I' v' H', k v' H' = some r ∧ Ext I w I' w' ∧ HR I' w' H' ∧ VR I' w' v' v := by
        intro h'
        split at h'
        · rename_i vs hvs
          obtain ⟨z, g1, g2⟩ := results_ok (P := cx.P) hT' hH' hvs
          exact ⟨hT'.df, z, g1, I', _, H', h', he, hH', g2⟩
        · cases h'
      cases e <;> cases x <;> first | exact hx.elim | skip
      · exact fin h'
      · cases h'
      · cases h'
      · exact fin h'
    · cases h
  · cases h
theorem evCall_ok (hg : Good cx) (n : Nat) : ∀ d : Nat, CallS cx.P (evCall (α := α) cx n d) := by
  induction n with
  | zero =>
    intro d I w H A args f k r hH hA h
    cases h
  | succ n ih =>
    intro d I w H A args f k r hH hA h
    simp only [evCall] at h
    split at h
    · rename_i hent
      refine ⟨enters_of hent, ?_⟩
      split at h
      · rename_i v hv
        obtain ⟨_, t, ht, hl, hp, rfl⟩ := tabVal_some hv
        refine Calls.mono (hg.tabs f t ht hH hA hl hp) ?_
        rintro e w' he
        cases e with
        | returned z =>
          obtain ⟨I', m1, m2, m3, m4⟩ := he
          exact ⟨I', _, H, _, h, m1, m3, m4, fun l hl n sz v _ hn => m2.row n sz v hn⟩
        | _ => exact he.elim
      split at h
      · rename_i q hq
        obtain ⟨S, X, m, h1, h2, rfl⟩ := specK_some hq
        exact hg.specs f S h1 hH hA h2 (fun i n hin => by simp only [outNam, get_of_mem (nodupB_nd (pr_key h2)) hin]) h
      · split at h
        · refine Calls.mono (bodyK_ok hg (ih (d + 1)) hH (Nat.le_of_eq hA.length) (fun i => hA.getD i) h) ?_
          rintro e w' he
          cases e with
          | returned z =>
            obtain ⟨I', v, H', k1, k2, k3, k4⟩ := he
            exact ⟨I', v, H', none, k1, k2, k3, k4, fun l hl => by cases hl⟩
          | _ => exact he.elim
        · cases h
    · cases h
end
end Go.Proofs.Dk

/- Templates: what is read off is what can be laid under other names. -/
namespace Go.Proofs.Dk
open Go Go.RowKit
set_option linter.unusedVariables false
set_option linter.unusedSimpArgs false
section
variable {I I2 : In} {w : World} {H : Heap} {ρ : Nam}
theorem valOf_ok {s : Sh} {d : DV} {v : Value} {x : s.T} (hv : VR I w d v) (h : valOf s d = some x) (hR : I2.R = I.R) : VR I2 w (s.val x) v := by
  have K2 : ∀ {cs : List Value}, s.K I.R w x cs → s.K I2.R w x cs := fun h => by rw [hR]; exact h
  unfold valOf at h
  split at h
  · rename_i hm
    split at h
    · rename_i cs
      split at h
      · rename_i y hy
        simp only [Option.some.injEq] at h
        subst h
        cases hv with | agg _ cs' hc =>
        obtain ⟨c1, c2, e, h1, h2⟩ := Sh.dec_ok hy hc
        cases h2
        rw [List.append_nil] at e
        subst e
        unfold Sh.val
        rw [if_pos hm]
        exact .agg _ _ (Sh.enc_ok (K2 h1))
      · cases h
    · cases h
  · rename_i hm
    split at h
    · rename_i y hy
      simp only [Option.some.injEq] at h
      subst h
      have h1c : CR I w [d] [v] := by
        cases hv with
        | sc _ h1 => exact .one _ _ _ _ (.sc _ h1) h1 .nil
        | vs s' xs _ hk => exact .one _ _ _ _ (.vs s' xs _ hk) (Sh.K_one hk v (by simp)) .nil
        | _ => cases s <;> first | (exact absurd rfl hm) | (simp [Sh.dec] at hy)
      obtain ⟨c1, c2, e, h1, h2⟩ := Sh.dec_ok hy h1c
      cases h2
      rw [List.append_nil] at e
      subst e
      have hC := Sh.enc_ok (K2 h1)
      unfold Sh.val
      rw [if_neg hm]
      cases s with
      | int k => cases hC with | one d r u cs h hu hr => exact h
      | bool => cases hC with | one d r u cs h hu hr => exact h
      | str => cases hC with | one d r u cs h hu hr => exact h
      | sl e => cases hC with | one d r u cs h hu hr => exact h
      | pair a b => exact absurd rfl hm
      | arr n e => exact absurd rfl hm
    · cases h
theorem rowOf_ok {E : TypeId} {s : Sh} {d : DV} {v : Value} {xs : List s.T} {u : List Nat} (hH : HR I w H) (hv : VR I w d v) (h : rowOf H E s d = some (xs, u)) :
    ∃ cs, w.ownsRow 0 E s.sz v xs.length cs ∧ (Sh.arr xs.length s).K I.R w xs cs ∧ (∃ A l c, v = .slice A l c) ∧ ((u = [] ∧ v.ownBlock = none) ∨ ∃ n sz v0, u = [n] ∧ I.ι n = some (.row sz v0) ∧ v.ownBlock = v0.ownBlock) := by
  unfold rowOf at h
  split at h
  · rename_i n c
    obtain rfl := hv.sc_eq
    split at h
    · rename_i hn
      split at h
      · rename_i hc
        subst hn hc
        simp only [Option.some.injEq, Prod.mk.injEq] at h
        obtain ⟨rfl, rfl⟩ := h
        exact ⟨[], ⟨by simp, .inl ⟨rfl, rfl⟩⟩, K_arr_nil s, ⟨_, _, _, rfl⟩, .inl ⟨rfl, rfl⟩⟩
      · cases h
    · cases h
  · rename_i n
    cases hv with | rw _ sz v hi hs =>
    split at h
    · rename_i E' s' xs' hrow
      split at h
      · rename_i hE
        subst hE
        split at h
        · rename_i hs' hq
          cases hs'
          simp only [Option.some.injEq, Prod.mk.injEq] at h
          obtain ⟨rfl, rfl⟩ := h
          obtain ⟨v0, cs, m1, m2, m3⟩ := hH.row n E' s xs' hrow
          rw [hi] at m1
          simp only [Option.some.injEq, Ent.row.injEq] at m1
          obtain ⟨rfl, rfl⟩ := m1
          exact ⟨cs, m2, m3, hs, .inr ⟨n, _, _, rfl, hi, rfl⟩⟩
        · cases h
      · cases h
    · cases h
  · rename_i n o l
    cases hv with | sl _ _ _ sz A A' len cap cap' hi hl h0' h1' hc' =>
    split at h
    · rename_i E' s' xs' hrow
      split at h
      · rename_i ho
        subst ho
        split at h
        · rename_i hE
          subst hE
          split at h
          · rename_i hs' hq
            cases hs'
            simp only [Option.some.injEq, Prod.mk.injEq] at h
            obtain ⟨rfl, rfl⟩ := h
            obtain ⟨rfl, rfl⟩ := h0' rfl
            obtain ⟨v0, cs, m1, m2, m3⟩ := hH.row n E' s xs' hrow
            rw [hi] at m1
            simp only [Option.some.injEq, Ent.row.injEq] at m1
            obtain ⟨rfl, rfl⟩ := m1
            obtain ⟨_, rfl, _, _⟩ := row_hdr hH hrow hi
            have hl' : l ≤ xs'.length := by omega
            have hlen : (xs'.take l).length = l := by simp; omega
            refine ⟨cs.take (l * s.sz), ?_, K_arr_take m3 hl', ⟨_, _, _, rfl⟩, .inr ⟨n, _, _, rfl, hi, ?_⟩⟩
            · rw [hlen]
              rcases m2.2 with ⟨e, e0⟩ | ⟨g, c', cur, e, _⟩
              · simp only [Value.slice.injEq] at e
                obtain ⟨rfl, _, rfl⟩ := e
                have : l = 0 := by omega
                subst this
                exact ⟨by simp, .inl ⟨rfl, rfl⟩⟩
              · simp only [Value.slice.injEq] at e
                obtain ⟨rfl, _, rfl⟩ := e
                exact ownsRow_take m2 hl'
            · cases A' <;> rfl
          · cases h
        · cases h
      · cases h
    · cases h
  · cases h
abbrev RE := Nat × Ent × Option Nat
def ReOk (I : In) (q : RE) : Prop := (∃ sz v, q.2.1 = .row sz v) ∧ match q.2.2 with
  | none => q.2.1.blk = none
  | some n => ∃ e, I.ι n = some e ∧ (∃ sz v, e = .row sz v) ∧ q.2.1.blk = e.blk
structure Cov (I I2 : In) (ρ : Nam) (m : Met) (es : List RE) : Prop where
  R : I2.R = I.R
  o : ∀ i n, (i, n) ∈ m.σ → I2.ι (ρ.o i) = I.ι n
  r : ∀ q ∈ es, I2.ι (ρ.r q.1) = some q.2.1
theorem Met.get_mem {m : Met} {i n : Nat} (h : m.get i = some n) : (i, n) ∈ m.σ := by
  unfold Met.get at h
  cases hf : m.σ.find? (fun e => e.1 == i) with
  | none => rw [hf] at h; cases h
  | some e =>
    rw [hf] at h
    simp only [Option.map_some, Option.some.injEq] at h
    have h1 := List.find?_some hf
    have h2 := List.mem_of_find?_eq_some hf
    simp only [beq_iff_eq] at h1
    rw [← h1, ← h]
    exact h2
structure Grow (m m' : Met) (es : List RE) : Prop where
  σ : ∀ e ∈ m.σ, e ∈ m'.σ
  u : m'.u = (es.filterMap (·.2.2)).reverse ++ m.u
theorem Grow.refl (m : Met) : Grow m m [] := ⟨fun _ h => h, rfl⟩
theorem Grow.trans {m m1 m2 : Met} {es es' : List RE} (h : Grow m m1 es) (k : Grow m1 m2 es') : Grow m m2 (es ++ es') :=
  ⟨fun e he => k.σ e (h.σ e he), by rw [k.u, h.u, List.filterMap_append, List.reverse_append, List.append_assoc]⟩
theorem Cov.left {m m' : Met} {es es' : List RE} (h : Cov I I2 ρ m' (es ++ es')) (hσ : ∀ e ∈ m.σ, e ∈ m'.σ) : Cov I I2 ρ m es := ⟨h.R, fun i n hn => h.o i n (hσ _ hn), fun q hq => h.r q (List.mem_append_left _ hq)⟩
theorem Cov.right {m : Met} {es es' : List RE} (h : Cov I I2 ρ m (es ++ es')) : Cov I I2 ρ m es' := ⟨h.R, h.o, fun q hq => h.r q (List.mem_append_right _ hq)⟩
theorem ptr_ok {n i : Nat} {v : Value} (hv : VR I w (.ptr n 0 []) v) (h : I2.ι (ρ.o i) = I.ι n) : VR I2 w (.ptr (ρ.o i) 0 []) v := by
  cases hv with | ptr _ _ _ b h1 h2 => exact .ptr _ _ _ b (h.trans h1) h2
theorem prP_ok : ∀ {is : List Nat} {l : List DV} {vs : List Value} {m m' : Met}, prP is l m = some m' → LR I w l vs → Grow m m' [] ∧ ∀ I2, Cov I I2 ρ m' [] → LR I2 w (is.map fun i => .ptr (ρ.o i) 0 []) vs
  | [], l, vs, m, m', h, hl => by
    simp only [prP] at h
    split at h
    · rename_i he
      simp only [Option.some.injEq] at h
      subst h
      cases l with
      | nil => cases hl with | nil => exact ⟨Grow.refl m, fun I2 _ => .nil⟩
      | cons a b => simp at he
    · cases h
  | i :: r, l, vs, m, m', h, hl => by
    simp only [prP] at h
    split at h
    · rename_i n l'
      cases hl with | cons _ _ u us hd hr =>
      split at h
      · rename_i n' hn
        split at h
        · rename_i e
          subst e
          obtain ⟨h1, h2⟩ := prP_ok h hr
          exact ⟨h1, fun I2 hc => .cons _ _ _ _ (ptr_ok hd (hc.o i n (h1.σ _ (Met.get_mem hn)))) (h2 I2 hc)⟩
        · cases h
      · obtain ⟨h1, h2⟩ := prP_ok h hr
        exact ⟨⟨fun e he => h1.σ e (List.mem_cons_of_mem _ he), h1.u⟩, fun I2 hc => .cons _ _ _ _ (ptr_ok hd (hc.o i n (h1.σ _ (List.mem_cons_self ..)))) (h2 I2 hc)⟩
    · cases h
def LaidR (I2 : In) (w : World) (f : Heap → Heap) (ns : List Nat) : Prop := ∀ H0 n, (∀ b, f H0 n = some b → BR I2 w n b ∨ H0 n = some b) ∧ (f H0 n = none → H0 n = none ∧ n ∉ ns)
theorem LaidR.id : LaidR I2 w (fun H => H) [] := fun H0 n => ⟨fun b h => .inr h, fun h => ⟨h, by simp⟩⟩
theorem LaidR.set {n0 : Nat} {b0 : Blk} {f : Heap → Heap} {ns : List Nat} (hb : BR I2 w n0 b0) (hf : LaidR I2 w f ns) : LaidR I2 w (fun H => f (H.set n0 (some b0))) (n0 :: ns) := by
  intro H0 n
  obtain ⟨h1, h2⟩ := hf (H0.set n0 (some b0)) n
  refine ⟨fun b h => ?_, fun h => ?_⟩
  · rcases h1 b h with h3 | h3
    · exact .inl h3
    · by_cases hn : n = n0
      · subst hn
        rw [Heap.set_same] at h3
        simp only [Option.some.injEq] at h3
        subst h3
        exact .inl hb
      · rw [Heap.set_ne hn] at h3
        exact .inr h3
  · obtain ⟨h3, h4⟩ := h2 h
    by_cases hn : n = n0
    · subst hn
      rw [Heap.set_same] at h3
      cases h3
    · rw [Heap.set_ne hn] at h3
      exact ⟨h3, by simp [hn, h4]⟩
end
end Go.Proofs.Dk

/- Templates: frames, objects. -/
namespace Go.Proofs.Dk
open Go Go.RowKit
set_option linter.unusedVariables false
set_option linter.unusedSimpArgs false
section
variable {I : In} {w : World} {H : Heap} {ρ : Nam}
theorem rowStep {I2 : In} {E : TypeId} {s : Sh} {d : DV} {v : Value} {xs : List s.T} {u : List Nat} {m : Met} (hH : HR I w H) (hv : VR I w d v) (h : rowOf H E s d = some (xs, u)) (c : Nat) : ∃ q : RE, q.1 = c ∧ Grow m ⟨m.σ, u ++ m.u⟩ [q] ∧ ReOk I q ∧ ∀ I2, I2.R = I.R → I2.ι (ρ.r c) = some q.2.1 → VR I2 w (.rw (ρ.r c)) v ∧ BR I2 w (ρ.r c) (.row E s xs) ∧ v.oneCell' = true := by
  obtain ⟨cs, h1, h2, ⟨A, l, cp, rfl⟩, h4⟩ := rowOf_ok hH hv h
  have fin : ∀ I2 : In, I2.R = I.R → I2.ι (ρ.r c) = some (.row s.sz (.slice A l cp)) → VR I2 w (.rw (ρ.r c)) (.slice A l cp) ∧ BR I2 w (ρ.r c) (.row E s xs) ∧ (Value.slice A l cp).oneCell' = true := by
    intro I2 hR hr
    exact ⟨.rw _ _ _ hr ⟨_, _, _, rfl⟩, ⟨_, cs, hr, h1, by rw [hR]; exact h2⟩, rfl⟩
  rcases h4 with ⟨rfl, h5⟩ | ⟨n, sz, v0, rfl, h5, h6⟩
  · exact ⟨(c, .row s.sz (.slice A l cp), none), rfl, ⟨fun _ h => h, rfl⟩, ⟨⟨_, _, rfl⟩, h5⟩, fin⟩
  · exact ⟨(c, .row s.sz (.slice A l cp), some n), rfl, ⟨fun _ h => h, rfl⟩, ⟨⟨_, _, rfl⟩, _, h5, ⟨_, _, rfl⟩, h6⟩, fin⟩
theorem re_app {es es' : List RE} (h : ∀ q ∈ es, ReOk I q) (h' : ∀ q ∈ es', ReOk I q) : ∀ q ∈ es ++ es', ReOk I q := fun q hq => (List.mem_append.1 hq).elim (h q) (h' q)
theorem prT_ok (hH : HR I w H) : ∀ {ks : List IK} {c : Nat} {T : List DV} {vals : Nat → Value} {m : Met} {x : Tup ks} {m' : Met}, prT H ks T m = some (x, m') → (∀ i, VR I w (T.getD i .undef) (vals i)) →
    ∃ es, Grow m m' es ∧ (∀ q ∈ es, ReOk I q) ∧ es.map (fun q => ρ.r q.1) = rnames ρ c ks ∧ ks.length ≤ T.length ∧ ∀ I2, Cov I I2 ρ m' es → (∀ i, VR I2 w ((mkT ρ c ks x).getD i .undef) (vals i)) ∧ LaidR I2 w (mkR ρ c ks x) (rnames ρ c ks)
  | [], c, T, vals, m, x, m', h, hV => by
    cases T with
    | cons d r => simp only [prT] at h; cases h
    | nil =>
    simp only [prT, Option.some.injEq, Prod.mk.injEq] at h
    obtain ⟨_, rfl⟩ := h
    exact ⟨[], Grow.refl m, fun q h => by simp at h, rfl, Nat.zero_le _, fun I2 hc => ⟨fun i => by simp only [mkT]; exact .undef _, fun H0 n => by simp only [mkR]; exact LaidR.id H0 n⟩⟩
  | .any :: r, c, T, vals, m, x, m', h, hV => by
    simp only [prT] at h
    split at h
    · rename_i d T
      obtain ⟨es, h1, h2, h3, h4, h5⟩ := prT_ok (c := c + 1) (vals := fun i => vals (i + 1)) hH h (fun i => hV (i + 1))
      refine ⟨es, h1, h2, h3, Nat.succ_le_succ h4, fun I2 hc => ?_⟩
      obtain ⟨g1, g2⟩ := h5 I2 hc
      exact ⟨fun i => by cases i with
        | zero => exact .undef _
        | succ i => exact g1 i, fun H0 n => by simp only [mkR, rnames]; exact g2 H0 n⟩
    · cases h
  | .val s :: r, c, T, vals, m, x, m', h, hV => by
    simp only [prT] at h
    split at h
    · rename_i d T
      split at h
      · rename_i y hy
        split at h
        · rename_i z m1 hz
          simp only [Option.some.injEq, Prod.mk.injEq] at h
          obtain ⟨rfl, rfl⟩ := h
          obtain ⟨es, h1, h2, h3, h4, h5⟩ := prT_ok (c := c + 1) (vals := fun i => vals (i + 1)) hH hz (fun i => hV (i + 1))
          refine ⟨es, h1, h2, h3, Nat.succ_le_succ h4, fun I2 hc => ?_⟩
          obtain ⟨g1, g2⟩ := h5 I2 hc
          exact ⟨fun i => by cases i with
            | zero => exact valOf_ok (hV 0) hy hc.R
            | succ i => exact g1 i, fun H0 n => by simp only [mkR, rnames]; exact g2 H0 n⟩
        · cases h
      · cases h
    · cases h
  | .agf s F :: r, c, T, vals, m, x, m', h, hV => by
    simp only [prT] at h
    split at h
    · rename_i ds T
      split at h
      · rename_i y F' hy
        split at h
        · rename_i hF
          subst hF
          split at h
          · rename_i z m1 hz
            simp only [Option.some.injEq, Prod.mk.injEq] at h
            obtain ⟨rfl, rfl⟩ := h
            obtain ⟨es, h1, h2, h3, h4, h5⟩ := prT_ok (c := c + 1) (vals := fun i => vals (i + 1)) hH hz (fun i => hV (i + 1))
            refine ⟨es, h1, h2, h3, Nat.succ_le_succ h4, fun I2 hc => ?_⟩
            obtain ⟨g1, g2⟩ := h5 I2 hc
            refine ⟨fun i => ?_, fun H0 n => by simp only [mkR, rnames]; exact g2 H0 n⟩
            cases i with
            | zero =>
              have h0 := hV 0
              simp only [List.getD_cons_zero] at h0
              generalize vals 0 = v0 at h0
              cases h0 with | agg _ cs hcs =>
              obtain ⟨c1, c2, e, k1, k2⟩ := Sh.dec_ok hy hcs
              show VR I2 w (.agg (s.enc y ++ [.fn (.func F') [] []])) _
              refine .agg _ _ ?_
              rw [e]
              refine CR.append (Sh.enc_ok (by rw [hc.R]; exact k1)) ?_
              cases k2 with | one _ _ u us hd hu hr =>
              cases hr
              obtain ⟨x', y', rfl, e1, e2⟩ := hd.fn_case
              refine .one _ _ _ _ (.fn _ _ _ x' y' ?_ ?_) hu .nil
              · generalize x'.toList = l at e1 ⊢; cases e1; exact .nil
              · generalize y'.toList = l at e2 ⊢; cases e2; exact .nil
            | succ i => exact g1 i
          · cases h
        · cases h
      · cases h
    · cases h
  | .row E s :: r, c, T, vals, m, x, m', h, hV => by
    simp only [prT] at h
    split at h
    · rename_i d T
      split at h
      · rename_i xs u hy
        split at h
        · rename_i z m1 hz
          simp only [Option.some.injEq, Prod.mk.injEq] at h
          obtain ⟨rfl, rfl⟩ := h
          obtain ⟨q, k1, k2, k3, k4⟩ := rowStep (ρ := ρ) (I2 := I) (m := m) hH (hV 0) hy c
          obtain ⟨es, h1, h2, h3, h4, h5⟩ := prT_ok (c := c + 1) (vals := fun i => vals (i + 1)) hH hz (fun i => hV (i + 1))
          refine ⟨[q] ++ es, k2.trans h1, re_app (fun p hp => by simp at hp; subst hp; exact k3) h2, by simp [rnames, k1, h3], Nat.succ_le_succ h4, fun I2 hc => ?_⟩
          obtain ⟨g1, g2⟩ := h5 I2 hc.right
          obtain ⟨f1, f2, f3⟩ := k4 I2 hc.R (by rw [← k1]; exact hc.r q (by simp))
          exact ⟨fun i => by cases i with
            | zero => exact f1
            | succ i => exact g1 i, fun H0 n => by simp only [mkR, rnames]; exact LaidR.set f2 g2 H0 n⟩
        · cases h
      · cases h
    · cases h
  | .obj i :: r, c, T, vals, m, x, m', h, hV => by
    simp only [prT] at h
    split at h
    · rename_i n T
      split at h
      · rename_i n' hn
        split at h
        · rename_i e
          subst e
          obtain ⟨es, h1, h2, h3, h4, h5⟩ := prT_ok (c := c + 1) (vals := fun i => vals (i + 1)) hH h (fun i => hV (i + 1))
          refine ⟨es, h1, h2, h3, Nat.succ_le_succ h4, fun I2 hc => ?_⟩
          obtain ⟨g1, g2⟩ := h5 I2 hc
          exact ⟨fun j => by cases j with
            | zero => exact ptr_ok (hV 0) (hc.o i n (h1.σ _ (Met.get_mem hn)))
            | succ j => exact g1 j, fun H0 n => by simp only [mkR, rnames]; exact g2 H0 n⟩
        · cases h
      · obtain ⟨es, h1, h2, h3, h4, h5⟩ := prT_ok (c := c + 1) (vals := fun i => vals (i + 1)) hH h (fun i => hV (i + 1))
        refine ⟨es, ⟨fun e he => h1.σ e (List.mem_cons_of_mem _ he), h1.u⟩, h2, h3, Nat.succ_le_succ h4, fun I2 hc => ?_⟩
        obtain ⟨g1, g2⟩ := h5 I2 hc
        exact ⟨fun j => by cases j with
          | zero => exact ptr_ok (hV 0) (hc.o i n (h1.σ _ (List.mem_cons_self ..)))
          | succ j => exact g1 j, fun H0 n => by simp only [mkR, rnames]; exact g2 H0 n⟩
    · cases h
  | .clo F is :: r, c, T, vals, m, x, m', h, hV => by
    simp only [prT] at h
    split at h
    · rename_i F' caps T
      split at h
      · rename_i hF
        subst hF
        split at h
        · rename_i m1 hm
          obtain ⟨x', y', e, e1, e2⟩ := (hV 0).fn_case
          obtain ⟨p1, p2⟩ := prP_ok (ρ := ρ) hm e2
          obtain ⟨es, h1, h2, h3, h4, h5⟩ := prT_ok (c := c + 1) (vals := fun i => vals (i + 1)) hH h (fun i => hV (i + 1))
          refine ⟨es, by simpa using p1.trans h1, h2, h3, Nat.succ_le_succ h4, fun I2 hc => ?_⟩
          obtain ⟨g1, g2⟩ := h5 I2 hc
          refine ⟨fun j => ?_, fun H0 n => by simp only [mkR, rnames]; exact g2 H0 n⟩
          cases j with
          | zero =>
            show VR I2 w (.fn (.func F') [] _) _
            rw [e]
            refine .fn _ _ _ x' y' ?_ (p2 I2 ⟨hc.R, fun i n hn => hc.o i n (h1.σ _ hn), fun q hq => by simp at hq⟩)
            generalize x'.toList = l at e1 ⊢
            cases e1
            exact .nil
          | succ j => exact g1 j
        · cases h
      · cases h
    · cases h
end
end Go.Proofs.Dk

/- Templates: memory. -/
namespace Go.Proofs.Dk
open Go Go.RowKit
set_option linter.unusedVariables false
set_option linter.unusedSimpArgs false
section
variable {I : In} {w : World} {H : Heap} {ρ : Nam}
theorem prC_ok (hH : HR I w H) : ∀ {ks : List IK} {c : Nat} {T : List DV} {vals : List Value} {m : Met} {x : Tup ks} {m' : Met}, prC H ks T m = some (x, m') → CR I w T vals →
    ∃ es, Grow m m' es ∧ (∀ q ∈ es, ReOk I q) ∧ es.map (fun q => ρ.r q.1) = rnames ρ c ks ∧ ∀ I2, Cov I I2 ρ m' es → CR I2 w (mkC ρ c ks x) vals ∧ LaidR I2 w (mkR ρ c ks x) (rnames ρ c ks)
  | [], c, T, vals, m, x, m', h, hV => by
    simp only [prC] at h
    split at h
    · simp only [Option.some.injEq, Prod.mk.injEq] at h
      obtain ⟨_, rfl⟩ := h
      cases hV
      exact ⟨[], Grow.refl m, fun q h => by simp at h, rfl, fun I2 hc => ⟨.nil, fun H0 n => by simp only [mkR]; exact LaidR.id H0 n⟩⟩
    · cases h
  | .any :: r, c, T, vals, m, x, m', h, hV => by
    simp only [prC] at h
    split at h
    · cases h
    · rename_i d T hd
      cases hV with
      | one _ _ u us hv hu hr =>
        obtain ⟨es, h1, h2, h3, h5⟩ := prC_ok (c := c + 1) hH h hr
        refine ⟨es, h1, h2, h3, fun I2 hc => ?_⟩
        obtain ⟨g1, g2⟩ := h5 I2 hc
        exact ⟨.one _ _ _ _ (.undef u) hu g1, fun H0 n => by simp only [mkR, rnames]; exact g2 H0 n⟩
      | arr s n xs _ c1 c2 hk h1 hr => exact (hd s n xs rfl).elim
    · cases h
  | .val s :: r, c, T, vals, m, x, m', h, hV => by
    simp only [prC] at h
    split at h
    · rename_i y T' hy
      split at h
      · rename_i z m1 hz
        simp only [Option.some.injEq, Prod.mk.injEq] at h
        obtain ⟨rfl, rfl⟩ := h
        obtain ⟨c1, c2, rfl, k1, k2⟩ := Sh.dec_ok hy hV
        obtain ⟨es, h1, h2, h3, h5⟩ := prC_ok (c := c + 1) hH hz k2
        refine ⟨es, h1, h2, h3, fun I2 hc => ?_⟩
        obtain ⟨g1, g2⟩ := h5 I2 hc
        exact ⟨CR.append (Sh.enc_ok (by rw [hc.R]; exact k1)) g1, fun H0 n => by simp only [mkR, rnames]; exact g2 H0 n⟩
      · cases h
    · cases h
  | .agf s F :: r, c, T, vals, m, x, m', h, hV => by
    simp only [prC] at h
    split at h
    · rename_i y F' T' hy
      split at h
      · rename_i hF
        subst hF
        split at h
        · rename_i z m1 hz
          simp only [Option.some.injEq, Prod.mk.injEq] at h
          obtain ⟨rfl, rfl⟩ := h
          obtain ⟨c1, c2, rfl, k1, k2⟩ := Sh.dec_ok hy hV
          cases k2 with | one _ _ u us hd hu hr =>
          obtain ⟨x', y', rfl, e1, e2⟩ := hd.fn_case
          obtain ⟨es, h1, h2, h3, h5⟩ := prC_ok (c := c + 1) hH hz hr
          refine ⟨es, h1, h2, h3, fun I2 hc => ?_⟩
          obtain ⟨g1, g2⟩ := h5 I2 hc
          refine ⟨?_, fun H0 n => by simp only [mkR, rnames]; exact g2 H0 n⟩
          show CR I2 w ((s.enc y ++ [.fn (.func F') [] []]) ++ mkC ρ (c + 1) r z) _
          rw [List.append_assoc]
          refine CR.append (Sh.enc_ok (by rw [hc.R]; exact k1)) ?_
          refine .one _ _ _ _ (.fn _ _ _ x' y' ?_ ?_) hu g1
          · generalize x'.toList = l at e1 ⊢; cases e1; exact .nil
          · generalize y'.toList = l at e2 ⊢; cases e2; exact .nil
        · cases h
      · cases h
    · cases h
  | .row E s :: r, c, T, vals, m, x, m', h, hV => by
    simp only [prC] at h
    split at h
    · rename_i d T
      split at h
      · rename_i xs u hy
        split at h
        · rename_i z m1 hz
          simp only [Option.some.injEq, Prod.mk.injEq] at h
          obtain ⟨rfl, rfl⟩ := h
          cases hV with
          | one _ _ u0 us hv hu hr =>
            obtain ⟨q, k1, k2, k3, k4⟩ := rowStep (ρ := ρ) (I2 := I) (m := m) hH hv hy c
            obtain ⟨es, h1, h2, h3, h5⟩ := prC_ok (c := c + 1) hH hz hr
            refine ⟨[q] ++ es, k2.trans h1, re_app (fun p hp => by simp at hp; subst hp; exact k3) h2, by simp [rnames, k1, h3], fun I2 hc => ?_⟩
            obtain ⟨g1, g2⟩ := h5 I2 hc.right
            obtain ⟨f1, f2, f3⟩ := k4 I2 hc.R (by rw [← k1]; exact hc.r q (by simp))
            exact ⟨.one _ _ _ _ f1 f3 g1, fun H0 n => by simp only [mkR, rnames]; exact LaidR.set f2 g2 H0 n⟩
          | arr => simp [rowOf] at hy
        · cases h
      · cases h
    · cases h
  | .obj i :: r, c, T, vals, m, x, m', h, hV => by
    simp only [prC] at h
    split at h
    · rename_i n T
      cases hV with | one _ _ u0 us hv hu hr =>
      split at h
      · rename_i n' hn
        split at h
        · rename_i e
          subst e
          obtain ⟨es, h1, h2, h3, h5⟩ := prC_ok (c := c + 1) hH h hr
          refine ⟨es, h1, h2, h3, fun I2 hc => ?_⟩
          obtain ⟨g1, g2⟩ := h5 I2 hc
          exact ⟨.one _ _ _ _ (ptr_ok hv (hc.o i n (h1.σ _ (Met.get_mem hn)))) hu g1, fun H0 n => by simp only [mkR, rnames]; exact g2 H0 n⟩
        · cases h
      · obtain ⟨es, h1, h2, h3, h5⟩ := prC_ok (c := c + 1) hH h hr
        refine ⟨es, ⟨fun e he => h1.σ e (List.mem_cons_of_mem _ he), h1.u⟩, h2, h3, fun I2 hc => ?_⟩
        obtain ⟨g1, g2⟩ := h5 I2 hc
        exact ⟨.one _ _ _ _ (ptr_ok hv (hc.o i n (h1.σ _ (List.mem_cons_self ..)))) hu g1, fun H0 n => by simp only [mkR, rnames]; exact g2 H0 n⟩
    · cases h
  | .clo F is :: r, c, T, vals, m, x, m', h, hV => by
    simp only [prC] at h
    split at h
    · rename_i F' caps T
      split at h
      · rename_i hF
        subst hF
        split at h
        · rename_i m1 hm
          cases hV with | one _ _ u0 us hv hu hr =>
          obtain ⟨x', y', rfl, e1, e2⟩ := hv.fn_case
          obtain ⟨p1, p2⟩ := prP_ok (ρ := ρ) hm e2
          obtain ⟨es, h1, h2, h3, h5⟩ := prC_ok (c := c + 1) hH h hr
          refine ⟨es, by simpa using p1.trans h1, h2, h3, fun I2 hc => ?_⟩
          obtain ⟨g1, g2⟩ := h5 I2 hc
          refine ⟨.one _ _ _ _ (.fn _ _ _ x' y' ?_ (p2 I2 ⟨hc.R, fun i n hn => hc.o i n (h1.σ _ hn), fun q hq => by simp at hq⟩)) hu g1, fun H0 n => by simp only [mkR, rnames]; exact g2 H0 n⟩
          generalize x'.toList = l at e1 ⊢
          cases e1
          exact .nil
        · cases h
      · cases h
    · cases h
def onums (ρ : Nam) : Nat → List (List IK) → List Nat
  | _, [] => []
  | i, _ :: r => ρ.o i :: onums ρ (i + 1) r
theorem LaidR.comp {I2 : In} {f g : Heap → Heap} {ns ns' : List Nat} (hf : LaidR I2 w f ns) (hg : LaidR I2 w g ns') : LaidR I2 w (fun H => g (f H)) (ns ++ ns') := by
  intro H0 n
  obtain ⟨g1, g2⟩ := hg (f H0) n
  obtain ⟨f1, f2⟩ := hf H0 n
  refine ⟨fun b h => (g1 b h).elim .inl (f1 b), fun h => ?_⟩
  obtain ⟨h1, h2⟩ := g2 h
  obtain ⟨h3, h4⟩ := f2 h1
  exact ⟨h3, by simp [h2, h4]⟩
theorem prO_ok (hH : HR I w H) : ∀ {os : List (List IK)} {i : Nat} {m : Met} {x : TupO os} {m' : Met}, prO H i os m = some (x, m') →
    ∃ es, Grow m m' es ∧ (∀ q ∈ es, ReOk I q) ∧ (onames ρ i os).Perm (es.map (fun q => ρ.r q.1) ++ onums ρ i os) ∧ (∀ j, j < os.length → ∃ n b, (i + j, n) ∈ m'.σ ∧ I.ι n = some (.obj b)) ∧ ∀ I2, Cov I I2 ρ m' es → LaidR I2 w (mkO ρ i os x) (onames ρ i os)
  | [], i, m, x, m', h => by
    simp only [prO, Option.some.injEq, Prod.mk.injEq] at h
    obtain ⟨_, rfl⟩ := h
    exact ⟨[], Grow.refl m, fun q h => by simp at h, .refl _, fun j hj => by simp at hj, fun I2 hc H0 n => by simp only [mkO]; exact LaidR.id H0 n⟩
  | k :: r, i, m, x, m', h => by
    simp only [prO] at h
    split at h
    · rename_i n hn
      split at h
      · rename_i cs hcs
        split at h
        · rename_i y m1 hy
          split at h
          · rename_i z m2 hz
            simp only [Option.some.injEq, Prod.mk.injEq] at h
            obtain ⟨rfl, rfl⟩ := h
            obtain ⟨b, c, t, b1, b2, b3⟩ := hH.obj n cs hcs
            obtain ⟨es, h1, h2, h3, h4⟩ := prC_ok (ρ := ρ) (c := 1000 * (i + 1)) hH hy b3
            obtain ⟨es', k1, k2, k3, k4, k5⟩ := prO_ok (i := i + 1) hH hz
            refine ⟨es ++ es', h1.trans k1, re_app h2 k2, ?_, fun j hj => ?_, fun I2 hc => ?_⟩
            · simp only [onames, onums, List.map_append, h3]
              refine (List.Perm.cons _ (List.Perm.append_left _ k3)).trans ?_
              rw [← List.append_assoc]
              exact List.perm_middle.symm
            · cases j with
              | zero => exact ⟨n, b, k1.σ _ (h1.σ _ (Met.get_mem hn)), b1⟩
              | succ j =>
                obtain ⟨n', b', e1, e2⟩ := k4 j (by simpa using hj)
                exact ⟨n', b', by rw [show i + (j + 1) = i + 1 + j by omega]; exact e1, e2⟩
            · obtain ⟨g1, g2⟩ := h4 I2 (hc.left k1.σ)
              have g3 := k5 I2 hc.right
              have hbr : BR I2 w (ρ.o i) (.obj (mkC ρ (1000 * (i + 1)) k y)) := ⟨b, c, t, (hc.o i n (k1.σ _ (h1.σ _ (Met.get_mem hn)))).trans b1, b2, g1⟩
              intro H0 q
              simp only [mkO, onames]
              have := LaidR.comp (LaidR.set hbr g2) g3 H0 q
              simpa using this
          · cases h
        · cases h
      · cases h
    · cases h
theorem nodupB_ok : ∀ {l : List Nat}, nodupB l = true → l.Nodup
  | [], _ => List.nodup_nil
  | a :: r, h => by
    simp only [nodupB, Bool.and_eq_true, Bool.not_eq_true'] at h
    rw [List.nodup_cons]
    exact ⟨by rw [← List.contains_iff_mem, h.1]; simp, nodupB_ok h.2⟩
end
end Go.Proofs.Dk

/- Templates: what is read off can be laid under any free names. -/
namespace Go.Proofs.Dk
open Go Go.RowKit
set_option linter.unusedVariables false
set_option linter.unusedSimpArgs false
theorem nodup_map_inj {α β : Type} {f : α → β} : ∀ {l : List α}, (l.map f).Nodup → ∀ {a b : α}, a ∈ l → b ∈ l → f a = f b → a = b
  | [], _, a, b, ha, _, _ => by simp at ha
  | c :: r, h, a, b, ha, hb, e => by
    rw [List.map_cons, List.nodup_cons] at h
    rcases List.mem_cons.1 ha with rfl | ha'
    · rcases List.mem_cons.1 hb with rfl | hb'
      · rfl
      · exact absurd (e ▸ List.mem_map_of_mem hb') h.1
    · rcases List.mem_cons.1 hb with rfl | hb'
      · exact absurd (e ▸ List.mem_map_of_mem ha') h.1
      · exact nodup_map_inj h.2 ha' hb' e
theorem nodup_filterMap_inj {α β : Type} {f : α → Option β} : ∀ {l : List α}, (l.filterMap f).Nodup → ∀ {a b : α} {o : β}, a ∈ l → b ∈ l → f a = some o → f b = some o → a = b
  | [], _, a, b, o, ha, _, _, _ => by simp at ha
  | c :: r, h, a, b, o, ha, hb, e, e' => by
    rw [List.filterMap_cons] at h
    have tl : (r.filterMap f).Nodup := by
      split at h
      · exact h
      · exact (List.nodup_cons.1 h).2
    rcases List.mem_cons.1 ha with rfl | ha'
    · rcases List.mem_cons.1 hb with rfl | hb'
      · rfl
      · rw [e] at h
        exact absurd (List.mem_filterMap.2 ⟨b, hb', e'⟩) (List.nodup_cons.1 h).1
    · rcases List.mem_cons.1 hb with rfl | hb'
      · rw [e'] at h
        exact absurd (List.mem_filterMap.2 ⟨a, ha', e⟩) (List.nodup_cons.1 h).1
      · exact nodup_filterMap_inj tl ha' hb' e e'
theorem onums_eq (ρ : Nam) : ∀ (os : List (List IK)) (i : Nat), onums ρ i os = (List.range os.length).map fun j => ρ.o (i + j)
  | [], i => rfl
  | k :: r, i => by
    simp only [onums, List.length_cons, List.range_succ_eq_map, List.map_cons, List.map_map, Nat.add_zero]
    rw [onums_eq ρ r (i + 1)]
    congr 1
    refine List.map_congr_left fun j _ => ?_
    simp only [Function.comp]
    congr 1
    omega
section
variable {I Ib : In} {w : World} {H Hb : Heap} {ρ : Nam}
structure Lay (I Ib I2 : In) (w : World) (t : Tmpl) (ρ : Nam) (x : t.Ty) (m : Met) (vals : Nat → Value) (Hb : Heap) : Prop where
  hr : HR I2 w (t.H ρ x Hb)
  val : ∀ i, VR I2 w ((t.T ρ x).getD i .undef) (vals i)
  R : I2.R = I.R
  out : ∀ n, n ∉ t.names ρ → I2.ι n = Ib.ι n
  obj : ∀ i, i < t.os.length → ∃ n b, (i, n) ∈ m.σ ∧ I.ι n = some (.obj b) ∧ I2.ι (ρ.o i) = some (.obj b)
  old : ∀ n e b, n ∈ t.names ρ → I2.ι n = some e → e.blk = some b → ∃ n' e', I.ι n' = some e' ∧ e'.blk = some b ∧ (n' ∈ m.u ∨ n' ∈ m.σ.map (·.2))
  met : ∀ e ∈ m.σ, e.1 < t.os.length
  key : (m.σ.map (·.1)).Nodup
  rows : ∀ n, n ∈ m.u → ∃ sz v, I.ι n = some (.row sz v)
  nd : (m.u ++ m.σ.map (·.2)).Nodup
  same : ∀ n e, Ib.ι n = some e → I2.ι n = some e
  row : ∀ n e, n ∈ t.names ρ → I2.ι n = some e → (∃ b, e = .obj b ∧ ∃ i, i < t.os.length ∧ n = ρ.o i) ∨ ∃ sz v, e = .row sz v
structure Base (I Ib : In) (w : World) (t : Tmpl) (ρ : Nam) (m : Met) (Hb : Heap) : Prop where
  br : ∀ n b, Hb n = some b → BR Ib w n b
  dom : ∀ n, Hb n = none → n ∉ t.names ρ → Ib.ι n = none
  old : ∀ n e, n ∈ t.names ρ → Ib.ι n = some e → ∃ i n', (i, n') ∈ m.σ ∧ n = ρ.o i ∧ I.ι n' = some e
  lt : ∀ n e b, n ∉ t.names ρ → Ib.ι n = some e → e.blk = some b → b < w.heap.size ∧ ¬ I.R b
  inj : ∀ n n' e e' b, n ∉ t.names ρ → n' ∉ t.names ρ → Ib.ι n = some e → Ib.ι n' = some e' → e.blk = some b → e'.blk = some b → n = n'
  R : ∀ b, Ib.R b → I.R b
  dis : ∀ n e n' e' b, n ∉ t.names ρ → Ib.ι n = some e → I.ι n' = some e' → (n' ∈ m.u ∨ n' ∈ m.σ.map (·.2)) → e.blk = some b → e'.blk ≠ some b
theorem baseNone (I : In) (w : World) (t : Tmpl) (ρ : Nam) (m : Met) : Base I ⟨fun _ => none, I.R⟩ w t ρ m (fun _ => none) where
  br := by intro n b h; cases h
  dom := by intro n _ _; rfl
  old := by intro n e _ h; cases h
  lt := by intro n e b _ h; cases h
  inj := by intro n n' e e' b _ _ h; cases h
  R := fun _ h => h
  dis := by intro n e n' e' b _ h; cases h
theorem lay_ok {t : Tmpl} {m0 m : Met} {x : t.Ty} {T : List DV} {vals : Nat → Value} (hH : HR I w H) (hu : m0.u = []) (h : t.pr m0 T H = some (x, m)) (hV : ∀ i, VR I w (T.getD i .undef) (vals i)) (hb : Base I Ib w t ρ m Hb) (hfree : t.free ρ Hb = true) : (∃ I2, Lay I Ib I2 w t ρ x m vals Hb) ∧ t.ks.length ≤ T.length ∧ m0.σ ⊆ m.σ := by
  unfold Tmpl.pr at h
  split at h
  · rename_i x1 m1 h1
    split at h
    · rename_i y m2 h2
      split at h
      · rename_i hc
        simp only [Option.some.injEq, Prod.mk.injEq] at h
        obtain ⟨rfl, rfl⟩ := h
        simp only [Bool.and_eq_true, List.all_eq_true, decide_eq_true_eq] at hc
        obtain ⟨⟨c1, c2⟩, c3⟩ := hc
        have n1 := nodupB_ok c1
        have n2 := nodupB_ok c2
        obtain ⟨es, g1, g2, g3, g4, g5⟩ := prT_ok (ρ := ρ) (c := 0) hH h1 hV
        obtain ⟨es', k1, k2, k3, k4, k5⟩ := prO_ok (ρ := ρ) hH h2
        unfold Tmpl.free at hfree
        simp only [Bool.and_eq_true, List.all_eq_true, Option.isNone_iff_eq_none] at hfree
        have hnd := nodupB_ok hfree.1
        have hnone := hfree.2
        have hgr := g1.trans k1
        have hu2 : m2.u = ((es ++ es').filterMap (·.2.2)).reverse := by rw [hgr.u, hu, List.append_nil]
        generalize hes : es ++ es' = E at hgr hu2
        -- the names
        have hperm : (t.names ρ).Perm (E.map (fun q => ρ.r q.1) ++ onums ρ 0 t.os) := by
          unfold Tmpl.names
          rw [← hes, List.map_append, ← g3, List.append_assoc]
          exact List.Perm.append_left _ k3
        have hnd2 := (hperm.nodup_iff).1 hnd
        rw [List.nodup_append] at hnd2
        obtain ⟨d1, d2, d3⟩ := hnd2
        have hmem : ∀ n, n ∈ t.names ρ ↔ (∃ q ∈ E, ρ.r q.1 = n) ∨ ∃ i, i < t.os.length ∧ ρ.o i = n := by
          intro n
          rw [hperm.mem_iff, List.mem_append, List.mem_map, onums_eq, List.mem_map]
          simp only [List.mem_range, Nat.zero_add]
        let I2 : In := ⟨fun n => match E.find? (fun q => ρ.r q.1 == n) with
          | some q => some q.2.1
          | none => match (List.range t.os.length).find? (fun i => ρ.o i == n) with
            | some i => match m2.get i with | some n' => I.ι n' | none => none
            | none => Ib.ι n, I.R⟩
        have ir : ∀ q ∈ E, I2.ι (ρ.r q.1) = some q.2.1 := by
          intro q hq
          show (match E.find? (fun p => ρ.r p.1 == ρ.r q.1) with | some q => some q.2.1 | none => _) = _
          cases hf : E.find? (fun p => ρ.r p.1 == ρ.r q.1) with
          | none => exact absurd (List.find?_eq_none.1 hf q hq) (by simp)
          | some p =>
            have hp := List.find?_some hf
            have hpm := List.mem_of_find?_eq_some hf
            simp only [beq_iff_eq] at hp
            rw [nodup_map_inj d1 hpm hq hp]
        have rnone : ∀ n, (∀ q ∈ E, ρ.r q.1 ≠ n) → E.find? (fun q => ρ.r q.1 == n) = none := fun n hn => List.find?_eq_none.2 fun q hq => by simp [hn q hq]
        have hget : ∀ i n, (i, n) ∈ m2.σ → m2.get i = some n := by
          intro i n hin
          unfold Met.get
          cases hf : m2.σ.find? (fun e => e.1 == i) with
          | none => exact absurd (List.find?_eq_none.1 hf (i, n) hin) (by simp)
          | some p =>
            have hp := List.find?_some hf
            have hpm := List.mem_of_find?_eq_some hf
            simp only [beq_iff_eq] at hp
            have := nodup_map_inj n2 hpm hin hp
            rw [this]
            rfl
        have io : ∀ i n, (i, n) ∈ m2.σ → I2.ι (ρ.o i) = I.ι n := by
          intro i n hin
          have hi := c3 _ hin
          have hio : ρ.o i ∈ onums ρ 0 t.os := by
            rw [onums_eq, List.mem_map]
            exact ⟨i, by simpa using hi, by simp⟩
          show (match E.find? (fun p => ρ.r p.1 == ρ.o i) with | some q => some q.2.1 | none => _) = _
          rw [rnone _ (fun q hq e => d3 _ (List.mem_map_of_mem hq) _ hio e)]
          cases hf : (List.range t.os.length).find? (fun j => ρ.o j == ρ.o i) with
          | none => exact absurd (List.find?_eq_none.1 hf i (by simpa using hi)) (by simp)
          | some j =>
            have hj := List.find?_some hf
            have hjm := List.mem_of_find?_eq_some hf
            simp only [beq_iff_eq] at hj
            rw [onums_eq] at d2
            have : j = i := nodup_map_inj d2 hjm (by simpa using hi) (by simpa using hj)
            subst this
            simp only [hget j n hin]
        have ib : ∀ n, n ∉ t.names ρ → I2.ι n = Ib.ι n := by
          intro n hn
          rw [hmem] at hn
          show (match E.find? (fun p => ρ.r p.1 == n) with | some q => some q.2.1 | none => _) = _
          rw [rnone n (fun q hq e => hn (.inl ⟨q, hq, e⟩))]
          have : (List.range t.os.length).find? (fun i => ρ.o i == n) = none := List.find?_eq_none.2 fun i hi => by
            simp only [List.mem_range] at hi
            intro e
            exact hn (.inr ⟨i, hi, by simpa using e⟩)
          rw [this]
        have hcov : Cov I I2 ρ m2 E := ⟨rfl, io, ir⟩
        rw [← hes] at hcov
        obtain ⟨f1, f2⟩ := g5 I2 (hcov.left k1.σ)
        have f3 := k5 I2 hcov.right
        rw [hes] at hcov
        have hlaid : LaidR I2 w (fun H => mkR ρ 0 t.ks x1 (mkO ρ 0 t.os y H)) (onames ρ 0 t.os ++ rnames ρ 0 t.ks) := LaidR.comp f3 f2
        have hobj : ∀ i, i < t.os.length → ∃ n b, (i, n) ∈ m2.σ ∧ I.ι n = some (.obj b) := fun i hi => by
          obtain ⟨n, b, e1, e2⟩ := k4 i hi
          rw [Nat.zero_add] at e1
          exact ⟨n, b, e1, e2⟩
        have hu3 : (E.filterMap (·.2.2)).Nodup := by
          have := (List.nodup_append.1 n1).1
          rw [hu2] at this
          exact (List.reverse_perm _).nodup_iff.1 this
        have hin_u : ∀ q ∈ E, ∀ n, q.2.2 = some n → n ∈ m2.u := fun q hq n hn => by
          rw [hu2, List.mem_reverse, List.mem_filterMap]
          exact ⟨q, hq, hn⟩
        have hre : ∀ q ∈ E, ReOk I q := by rw [← hes]; exact re_app g2 k2
        -- where an entry comes from
        have org : ∀ n e, I2.ι n = some e → (∃ q ∈ E, ρ.r q.1 = n ∧ e = q.2.1) ∨ (∃ i n', i < t.os.length ∧ ρ.o i = n ∧ (i, n') ∈ m2.σ ∧ I.ι n' = some e) ∨ (n ∉ t.names ρ ∧ Ib.ι n = some e) := by
          intro n e hn
          by_cases hm : n ∈ t.names ρ
          · rcases (hmem n).1 hm with ⟨q, hq, rfl⟩ | ⟨i, hi, rfl⟩
            · rw [ir q hq] at hn
              simp only [Option.some.injEq] at hn
              exact .inl ⟨q, hq, rfl, hn.symm⟩
            · obtain ⟨n', b, e1, e2⟩ := hobj i hi
              rw [io i n' e1] at hn
              exact .inr (.inl ⟨i, n', hi, rfl, e1, hn⟩)
          · rw [ib n hm] at hn
            exact .inr (.inr ⟨hm, hn⟩)
        have oldr : ∀ q ∈ E, ∀ b, q.2.1.blk = some b → ∃ n e, q.2.2 = some n ∧ I.ι n = some e ∧ e.blk = some b := by
          intro q hq b hb
          have := (hre q hq).2
          cases hq2 : q.2.2 with
          | none => rw [hq2] at this; rw [this] at hb; cases hb
          | some n =>
            rw [hq2] at this
            obtain ⟨e, e1, _, e2⟩ := this
            exact ⟨n, e, rfl, e1, by rw [← e2]; exact hb⟩
        have key : ∀ n e, Ib.ι n = some e → I2.ι n = some e := fun n e hn => by
          by_cases hm : n ∈ t.names ρ
          · obtain ⟨i, n', e1, rfl, e2⟩ := hb.old n e hm hn
            rw [io i n' e1]
            exact e2
          · rw [ib n hm]
            exact hn
        have hsame : Same Ib I2 w w := ⟨⟨hb.R, fun _ _ => rfl⟩, fun n b => key n _, fun n sz v => key n _⟩
        refine ⟨⟨I2, ⟨HR.of (fun n b hn => ?_) (fun n hn => ?_) (fun n e b hn hbl => ?_) (fun n n' e e' b hn hn' hbl hbl' => ?_) (fun b hR => hH.rlt b hR), f1, rfl, ib, fun i hi => ?_, fun n e b hm hn hbl => ?_, c3, n2, fun n hn => ?_, n1, key, fun n e hm hn => ?_⟩⟩, g4, fun e he => hgr.σ e he⟩
        · rcases (hlaid Hb n).1 b hn with h3 | h3
          · exact h3
          · exact (hb.br n b h3).keep hsame (fun _ _ _ _ => rfl)
        · obtain ⟨h3, h4⟩ := (hlaid Hb n).2 hn
          have hnm : n ∉ t.names ρ := by unfold Tmpl.names; rw [List.mem_append] at h4 ⊢; exact fun h => h4 h.symm
          rw [ib n hnm]
          exact hb.dom n h3 hnm
        · rcases org n e hn with ⟨q, hq, _, rfl⟩ | ⟨i, n', _, _, _, h3⟩ | ⟨hnm, h3⟩
          · obtain ⟨o, e', _, h4, h5⟩ := oldr q hq b hbl
            exact hH.lt o e' b h4 h5
          · exact hH.lt n' e b h3 hbl
          · exact hb.lt n e b hnm h3 hbl
        · rcases org n e hn with ⟨q, hq, rfl, rfl⟩ | ⟨i, o, hi, rfl, hio, h3⟩ | ⟨hnm, h3⟩
          · obtain ⟨o, e0, h4, h5, h6⟩ := oldr q hq b hbl
            rcases org n' e' hn' with ⟨q', hq', rfl, rfl⟩ | ⟨i', o', hi', rfl, hio', h3'⟩ | ⟨hnm', h3'⟩
            · obtain ⟨o', e0', h4', h5', h6'⟩ := oldr q' hq' b hbl'
              have := hH.inj o o' e0 e0' b h5 h5' h6 h6'
              subst this
              rw [nodup_filterMap_inj hu3 hq hq' h4 h4']
            · have := hH.inj o o' e0 e' b h5 h3' h6 hbl'
              subst this
              exact absurd rfl ((List.nodup_append.1 n1).2.2 o (hin_u q hq o h4) o (List.mem_map_of_mem (f := (·.2)) hio'))
            · exact absurd h6 (hb.dis n' e' o e0 b hnm' h3' h5 (.inl (hin_u q hq o h4)) hbl')
          · rcases org n' e' hn' with ⟨q', hq', rfl, rfl⟩ | ⟨i', o', hi', rfl, hio', h3'⟩ | ⟨hnm', h3'⟩
            · obtain ⟨o', e0', h4', h5', h6'⟩ := oldr q' hq' b hbl'
              have := hH.inj o o' e e0' b h3 h5' hbl h6'
              subst this
              exact absurd rfl ((List.nodup_append.1 n1).2.2 o (hin_u q' hq' o h4') o (List.mem_map_of_mem (f := (·.2)) hio))
            · have := hH.inj o o' e e' b h3 h3' hbl hbl'
              subst this
              have := nodup_map_inj (f := (·.2)) (List.nodup_append.1 n1).2.1 hio hio' rfl
              simp only [Prod.mk.injEq] at this
              rw [this.1]
            · exact absurd hbl (hb.dis n' e' o e b hnm' h3' h3 (.inr (List.mem_map_of_mem (f := (·.2)) hio)) hbl')
          · rcases org n' e' hn' with ⟨q', hq', rfl, rfl⟩ | ⟨i', o', hi', rfl, hio', h3'⟩ | ⟨hnm', h3'⟩
            · obtain ⟨o', e0', h4', h5', h6'⟩ := oldr q' hq' b hbl'
              exact absurd h6' (hb.dis n e o' e0' b hnm h3 h5' (.inl (hin_u q' hq' o' h4')) hbl)
            · exact absurd hbl' (hb.dis n e o' e' b hnm h3 h3' (.inr (List.mem_map_of_mem (f := (·.2)) hio')) hbl)
            · exact hb.inj n n' e e' b hnm hnm' h3 h3' hbl hbl'
        · obtain ⟨n, b, e1, e2⟩ := hobj i hi
          exact ⟨n, b, e1, e2, (io i n e1).trans e2⟩
        · rcases org n e hn with ⟨q, hq, _, rfl⟩ | ⟨i, n', _, _, hio, h3⟩ | ⟨hnm, _⟩
          · obtain ⟨o, e', h4, h5, h6⟩ := oldr q hq b hbl
            exact ⟨o, e', h5, h6, .inl (hin_u q hq o h4)⟩
          · exact ⟨n', e, h3, hbl, .inr (List.mem_map_of_mem (f := (·.2)) hio)⟩
          · exact absurd hm hnm
        · rw [hu2, List.mem_reverse, List.mem_filterMap] at hn
          obtain ⟨q, hq, hq2⟩ := hn
          have := (hre q hq).2
          rw [hq2] at this
          obtain ⟨e, e1, ⟨sz, v, rfl⟩, _⟩ := this
          exact ⟨sz, v, e1⟩
        · rcases org n e hn with ⟨q, hq, _, rfl⟩ | ⟨i, n', hi, h4, hio, h3⟩ | ⟨hnm, _⟩
          · exact .inr (hre q hq).1
          · obtain ⟨n2', b, e1, e2⟩ := hobj i hi
            have : n' = n2' := by
              have a1 := hget i n' hio
              have a2 := hget i n2' e1
              rw [a1] at a2
              simpa using a2
            subst this
            rw [h3] at e2
            simp only [Option.some.injEq] at e2
            exact .inl ⟨b, e2, i, hi, h4.symm⟩
          · exact absurd hm hnm
      · cases h
    · cases h
  · cases h
end
end Go.Proofs.Dk

/- The reader: whatever goes on after a piece. -/
namespace Go.Proofs.Dk
open Go Go.RowKit
set_option linter.unusedVariables false
set_option linter.unusedSimpArgs false
section
variable {P : Program} {α : Type}
theorem appendK_nat {d : Nat} {o : Oper} {E : TypeId} {s : Sh} {x : DV} {ys : List s.T} {T : List DV} {H : Heap} {k : List DV → Heap → Option α} : appendK P d o E s x ys T H k = (appendK P d o E s x ys T H fun T H => some (T, H)).bind fun e => k e.1 e.2 := by
  unfold appendK
  repeat' split
  all_goals first | rfl | (rw [allocK_nat, allocK_nat (k := fun v a => some (putT T o.dst v, H.act a))]; generalize allocK d o H _ _ _ = z; cases z <;> rfl)
theorem opE_nat2 {d : Nat} {o : Oper} {T : List DV} {H : Heap} {k : List DV → Heap → Option α} : (opE P d o T H fun v a => k (putT T o.dst v) (H.act a)) = (opE P d o T H fun v a => some (putT T o.dst v, H.act a)).bind fun e => k e.1 e.2 := by
  rw [opE_nat, opE_nat (k := fun v a => some (putT T o.dst v, H.act a))]
  generalize opE P d o T H (fun v a => some (v, a)) = z
  cases z <;> rfl
theorem opK_nat {d : Nat} {o : Oper} {T : List DV} {H : Heap} {k : K α} : opK P d o T H k = (opK P d o T H fun T H => some (T, H)).bind fun e => k e.1 e.2 := by
  unfold opK
  split
  · split
    exact opE_nat2
  · split
    · split
      exact opE_nat2
    · exact opE_nat2
  · split
    · repeat' split
      all_goals first | rfl | exact appendK_nat
    · exact opE_nat2
  · exact opE_nat2
end
def CallN (call : (α : Type) → CallK α) : Prop := ∀ {α : Type} {g : FuncId} {A : List DV} {H : Heap} {k : DV → Heap → Option (List Nat) → Option α}, call α g A H k = (call _ g A H fun v H u => some (v, H, u)).bind fun e => k e.1 e.2.1 e.2.2
theorem bind_eta {α β γ : Type} {x : Option α} {f : α → Option β} {g : β → Option γ} {h : α → Option γ} (e : ∀ a, h a = (f a).bind g) : x.bind h = (x.bind f).bind g := by
  cases x with
  | none => rfl
  | some a => exact e a
section
variable {cx : Cx} {call : (α : Type) → CallK α} {α : Type}
theorem evOps_nat (hc : CallN call) {d : Nat} {ops : Array Oper} : ∀ {l : List Oper} {α : Type} {T : List DV} {H : Heap} {k : K α}, evOps cx (call α) d ops l T H k = (evOps cx (call _) d ops l T H fun T H => some (T, H)).bind fun e => k e.1 e.2
  | [], α, T, H, k => rfl
  | o :: l, α, T, H, k => by
    have ih : ∀ {T : List DV} {H : Heap}, evOps cx (call α) d ops l T H k = (evOps cx (call _) d ops l T H fun T H => some (T, H)).bind fun e => k e.1 e.2 := evOps_nat hc
    have hp : ∀ {T : List DV}, (opK cx.P d o T H fun T H => evOps cx (call α) d ops l T H k) = (opK cx.P d o T H fun T H => evOps cx (call _) d ops l T H fun T H => some (T, H)).bind fun e => k e.1 e.2 := by
      intro T
      rw [opK_nat, opK_nat (k := fun T H => evOps cx (call _) d ops l T H fun T H => some (T, H))]
      exact bind_eta fun a => ih
    have hcall : ∀ {g : FuncId} {A T : List DV} {H : Heap}, (call α g A H fun v H u => evOps cx (call α) d ops l (putT (keepT T u) o.dst v) H k) = (call _ g A H fun v H u => evOps cx (call _) d ops l (putT (keepT T u) o.dst v) H fun T H => some (T, H)).bind fun e => k e.1 e.2 := by
      intro g A T H
      rw [hc, hc (k := fun v H u => evOps cx (call _) d ops l (putT (keepT T u) o.dst v) H fun T H => some (T, H))]
      exact bind_eta fun a => ih
    unfold evOps
    simp only
    repeat' split
    all_goals first | rfl | exact hp | exact ih | exact hcall
theorem specV_nat : ∀ {l : List FS} {A : List DV} {k : DV → Option α}, specV l A k = (specV l A (fun v => some v)).map fun q => q.bind k
  | [], _, _ => rfl
  | S :: l, A, k => by
    simp only [specV]
    split
    · split
      · simp only [Option.map_some, Option.some.injEq]
        exact bind_eta fun a => rfl
      · exact specV_nat
    · exact specV_nat
theorem softK_nat : ∀ {l : List FS} {A : List DV} {H : Heap} {b : Nat} {k : DV → Act2 → Option α}, softK l A H b k = (softK l A H b (fun v a => some (v, a))).map fun q => q.bind fun e => k e.1 e.2
  | [], _, _, _, _ => rfl
  | S :: l, A, H, b, k => by
    simp only [softK]
    split
    · simp only [Option.map_some, Option.some.injEq]
      refine bind_eta fun a => ?_
      split <;> rfl
    · exact softK_nat
theorem softA_nat {P : Program} {d : Nat} {o : Oper} {c : Call} {T : List DV} {H : Heap} {k : DV → Act2 → Option α} : softA P d o c T H k = (softA P d o c T H fun v a => some (v, a)).bind fun e => k e.1 e.2 := by
  unfold softA
  repeat' split
  all_goals first | rfl | exact appendS_nat
theorem evOpsD_nat (hc : CallN call) {d : Nat} {ops : Array Oper} {anc : List Nat} : ∀ {l : List Oper} {m : Nat} {q : Bool} {log : List (Nat × Did)} {α : Type} {T : List DV} {H : Heap} {k : K α}, evOpsD cx (call α) d ops anc l m q log T H k = (evOpsD cx (call _) d ops anc l m q log T H fun T H => some (T, H)).bind fun e => k e.1 e.2
  | [], m, q, log, α, T, H, k => rfl
  | o :: l, m, q, log, α, T, H, k => by
    have ih : ∀ {m : Nat} {q : Bool} {log : List (Nat × Did)} {T : List DV} {H : Heap}, evOpsD cx (call α) d ops anc l m q log T H k = (evOpsD cx (call _) d ops anc l m q log T H fun T H => some (T, H)).bind fun e => k e.1 e.2 := evOpsD_nat hc
    have hn : ∀ {c : Bool} {m : Nat} {q : Bool} {log : List (Nat × Did)} {T : List DV} {H : Heap}, (if c = true then evOpsD cx (call α) d ops anc l m q log T H k else none) = (if c = true then evOpsD cx (call _) d ops anc l m q log T H fun T H => some (T, H) else none).bind fun e => k e.1 e.2 := by
      intro c m q log T H
      cases c
      · rfl
      · exact ih
    have hE : ∀ {T : List DV} {c : DV → Actn → Bool} {m : Nat} {qg : DV → Actn → Bool} {lg : DV → Actn → List (Nat × Did)}, (opE cx.P d o T H fun v a => if c v a = true then evOpsD cx (call α) d ops anc l m (qg v a) (lg v a) (putT T o.dst v) (H.act a) k else none) = (opE cx.P d o T H fun v a => if c v a = true then evOpsD cx (call _) d ops anc l m (qg v a) (lg v a) (putT T o.dst v) (H.act a) fun T H => some (T, H) else none).bind fun e => k e.1 e.2 := by
      intro T c m qg lg
      rw [opE_nat, opE_nat (k := fun v a => if c v a = true then evOpsD cx (call _) d ops anc l m (qg v a) (lg v a) (putT T o.dst v) (H.act a) fun T H => some (T, H) else none)]
      exact bind_eta fun a => hn
    have hp : ∀ {m : Nat} {T : List DV}, (opK cx.P d o T H fun T H => evOpsD cx (call α) d ops anc l m true [] T H k) = (opK cx.P d o T H fun T H => evOpsD cx (call _) d ops anc l m true [] T H fun T H => some (T, H)).bind fun e => k e.1 e.2 := by
      intro m T
      rw [opK_nat, opK_nat (k := fun T H => evOpsD cx (call _) d ops anc l m true [] T H fun T H => some (T, H))]
      exact bind_eta fun a => ih
    have hcall : ∀ {m : Nat} {g : FuncId} {A T : List DV} {H : Heap}, (call α g A H fun v H u => evOpsD cx (call α) d ops anc l m true [] (putT (keepT T u) o.dst v) H k) = (call _ g A H fun v H u => evOpsD cx (call _) d ops anc l m true [] (putT (keepT T u) o.dst v) H fun T H => some (T, H)).bind fun e => k e.1 e.2 := by
      intro m g A T H
      rw [hc, hc (k := fun v H u => evOpsD cx (call _) d ops anc l m true [] (putT (keepT T u) o.dst v) H fun T H => some (T, H))]
      exact bind_eta fun a => ih
    have hrun : ∀ {n : Nat} {T : List DV} {c : DV → Actn → Bool} {m : Nat} {qg : DV → Actn → Bool} {lg : DV → Actn → List (Nat × Did)} {cs : List Nat → DV → Act2 → Bool} {ls : List Nat → DV → Act2 → List (Nat × Did)}, runD cx (call α) d ops.size anc o n T H (fun v a => if c v a = true then evOpsD cx (call α) d ops anc l m (qg v a) (lg v a) (putT T o.dst v) (H.act a) k else none) (fun rd v a => if cs rd v a = true then evOpsD cx (call α) d ops anc l m false (ls rd v a) (putT (dropsL a.u T) o.dst v) (H.act2 a) k else none) (fun T H => evOpsD cx (call α) d ops anc l m true [] T H k) =
        (runD cx (call _) d ops.size anc o n T H (fun v a => if c v a = true then evOpsD cx (call _) d ops anc l m (qg v a) (lg v a) (putT T o.dst v) (H.act a) fun T H => some (T, H) else none) (fun rd v a => if cs rd v a = true then evOpsD cx (call _) d ops anc l m false (ls rd v a) (putT (dropsL a.u T) o.dst v) (H.act2 a) fun T H => some (T, H) else none) (fun T H => evOpsD cx (call _) d ops anc l m true [] T H fun T H => some (T, H))).bind fun e => k e.1 e.2 := by
      intro n T c m qg lg cs ls
      unfold runD
      split
      · split
        · split
          · rename_i g a b hf
            have hz : ∀ {x : Option α} {y : Option (List DV × Heap)}, x = (y.bind fun e => k e.1 e.2) → x = (y.bind fun e => k e.1 e.2) := id
            generalize tabVal cx g (a ++ List.map (evO T) _ ++ b) = tv
            cases tv with
            | some v => exact hn
            | none =>
            simp only
            rw [specV_nat (α := α), specV_nat (α := List DV × Heap)]
            cases entersB cx.P g with
            | true =>
              simp only [if_true]
              generalize specV (cx.specs g) (a ++ List.map (evO T) _ ++ b) (fun v => some v) = z
              cases z with
              | none =>
                simp only [Option.map_none]
                rw [softK_nat (α := α), softK_nat (α := List DV × Heap)]
                generalize softK (cx.specs g) (a ++ List.map (evO T) _ ++ b) H (softBase d o) (fun v a => some (v, a)) = zs
                split
                · repeat' split
                  all_goals exact hcall
                · cases zs with
                  | none => rfl
                  | some q => exact bind_eta fun v => hn
              | some q => exact bind_eta fun v => hn
            | false =>
              simp only [Bool.false_eq_true, if_false]
              repeat' split
              all_goals first | exact hcall | rfl
          · rfl
        · split
          · exact hp
          · rw [softA_nat (α := α), softA_nat (α := List DV × Heap)]
            exact bind_eta fun v => hn
        · exact hE
      · split
        · exact hp
        · exact hE
      · exact hE
    have hr : ∀ {T : List DV}, _ := fun {T : List DV} => hrun (n := m) (T := T) (c := fun v act => okD ops anc d m q log (didD ops T H o v (readsD T o) (Act2.of act))) (m := m + 1) (qg := fun v act => q && act.isNone) (lg := fun v act => (m, didD ops T H o v (readsD T o) (Act2.of act)) :: log) (cs := fun rd v act => okD ops anc d m q log (didD ops T H o v rd act)) (ls := fun rd v act => (m, didD ops T H o v rd act) :: log)
    unfold evOpsD
    simp only
    split
    · exact hr (T := T)
    · split
      · rename_i g hj
        split
        · rename_i b hb
          cases b with
          | true =>
            simp only [if_true]
            split
            · exact hr (T := T.set g (.sc (.bool true)))
            · exact hn
          | false =>
            simp only [Bool.false_eq_true, if_false]
            split
            · exact hn
            · exact hr (T := T.set g (.sc (.bool false)))
        · exact hn
        · rfl
      · rfl
end
end Go.Proofs.Dk

/- The reader: whatever goes on after a piece, a call. -/
namespace Go.Proofs.Dk
open Go Go.RowKit
set_option linter.unusedVariables false
set_option linter.unusedSimpArgs false
abbrev Out3 := Ex × List DV × Heap
theorem nat2 {α : Type} {B : (β : Type) → (Ex → List DV → Heap → Option β) → Option β} (hB : ∀ (β : Type) (k : Ex → List DV → Heap → Option β), B β k = (B Out3 fun e T H => some (e, T, H)).bind fun p => k p.1 p.2.1 p.2.2) {k1 : Ex → List DV → Heap → Option α} {k2 : Ex → List DV → Heap → Option Out3} {g : Out3 → Option α} (h : ∀ e T H, k1 e T H = (k2 e T H).bind g) : B α k1 = (B Out3 k2).bind g := by
  rw [hB α k1, hB Out3 k2]
  exact bind_eta fun p => h p.1 p.2.1 p.2.2
section
variable {cx : Cx} {call : (α : Type) → CallK α} {α : Type}
theorem unroll_nat {body : (β : Type) → List DV → Heap → (Ex → List DV → Heap → Option β) → Option β} (hb : ∀ {β : Type} {T : List DV} {H : Heap} {k : Ex → List DV → Heap → Option β}, body β T H k = (body _ T H fun e T H => some (e, T, H)).bind fun p => k p.1 p.2.1 p.2.2) : ∀ {n : Nat} {T : List DV} {H : Heap} {k : Ex → List DV → Heap → Option α}, unroll (body α) n T H k = (unroll (body Out3) n T H fun e T H => some (e, T, H)).bind fun p => k p.1 p.2.1 p.2.2
  | 0, T, H, k => rfl
  | n + 1, T, H, k => by
    simp only [unroll]
    refine nat2 (B := fun β k => body β T H k) (fun β k => hb) fun e T H => ?_
    cases e
    · exact unroll_nat hb
    · rfl
    · rfl
    · rfl
theorem outK_nat : ∀ {os : List (Ex × Tmpl)} {y : OutTy os} {α β : Type} {k : Ex → (t : Tmpl) → t.Ty → Option α} {k' : Ex → (t : Tmpl) → t.Ty → Option β} {g : β → Option α}, (∀ e t y, k e t y = (k' e t y).bind g) → outK os y k = (outK os y k').bind g
  | [], y, α, β, k, k', g, h => by cases y
  | [e], y, α, β, k, k', g, h => h _ _ _
  | e :: f :: r, y, α, β, k, k', g, h => by
    cases y with
    | inl y => exact h _ _ _
    | inr y => exact outK_nat (os := f :: r) h
theorem loopK_nat {L : Loop} {b : Nat} {T : List DV} {H : Heap} {k : Ex → List DV → Heap → Option α} : loopK L b T H k = (loopK L b T H fun e T H => some (e, T, H)).bind fun p => k p.1 p.2.1 p.2.2 := by
  unfold loopK
  split
  · refine bind_eta fun y => ?_
    refine outK_nat fun e t y => ?_
    simp only
    split <;> rfl
  · rfl
theorem evCode_nat (hc : CallN call) {f d : Nat} : ∀ (c : Code) {α : Type} {T : List DV} {H : Heap} {k : Ex → List DV → Heap → Option α}, evCode cx (call α) f d c T H k = (evCode cx (call Out3) f d c T H fun e T H => some (e, T, H)).bind fun p => k p.1 p.2.1 p.2.2 := by
  intro c
  induction c with
  | skip => intros; rfl
  | label l => intros; rfl
  | exit id => intros; rfl
  | goto l => intros; rfl
  | ret => intros; rfl
  | refuse s => intros; rfl
  | rangeFunc _ _ _ _ _ _ => intros; rfl
  | region id ops draw =>
    intro α T H k
    simp only [evCode]
    split
    · split
      · split
        · rw [evOpsD_nat hc, evOpsD_nat hc (k := fun T H => some (Ex.norm, T, H))]
          exact bind_eta fun p => rfl
        · rfl
      · rfl
    · rw [evOps_nat hc, evOps_nat hc (k := fun T H => some (Ex.norm, T, H))]
      exact bind_eta fun p => rfl
  | seq x y ihx ihy =>
    intro α T H k
    simp only [evCode]
    split
    · rename_i L hL
      refine nat2 (B := fun β k => loopK L _ T H k) (fun β k => loopK_nat) fun e T H => ?_
      cases e
      · exact ihy
      · rfl
      · rfl
      · rfl
    · refine nat2 (B := fun β k => evCode cx (call β) f d x T H k) (fun β k => ihx) fun e T H => ?_
      cases e
      · exact ihy
      · rfl
      · rfl
      · rfl
  | cond c x y ihx ihy =>
    intro α T H k
    simp only [evCode]
    repeat' split
    all_goals first | rfl | exact ihx | exact ihy
  | block id c ih =>
    intro α T H k
    simp only [evCode]
    refine nat2 (B := fun β k => evCode cx (call β) f d c T H k) (fun β k => ih) fun e T H => ?_
    cases e
    · rfl
    · simp only
      split <;> rfl
    · rfl
    · rfl
  | loop c ih =>
    intro α T H k
    simp only [evCode]
    split
    · exact loopK_nat
    · exact unroll_nat (body := fun β => evCode cx (call β) f d c) (fun {β T H k} => ih)
  | scope c ih =>
    intro α T H k
    simp only [evCode]
    refine nat2 (B := fun β k => evCode cx (call β) f d c T H k) (fun β k => ih) fun e T H => ?_
    cases e <;> rfl
theorem specK_nat : ∀ {l : List FS} {A : List DV} {H : Heap} {b : Nat} {k : DV → Heap → Option (List Nat) → Option α}, specK l A H b k = (specK l A H b fun v H u => some (v, H, u)).map fun q => q.bind fun e => k e.1 e.2.1 e.2.2
  | [], A, H, b, k => rfl
  | S :: l, A, H, b, k => by
    simp only [specK]
    split
    · simp only [Option.map_some, Option.some.injEq]
      refine bind_eta fun y => ?_
      split <;> rfl
    · exact specK_nat
theorem bodyK_nat (hc : CallN call) {f d : Nat} {A : List DV} {H : Heap} {k : DV → Heap → Option α} : bodyK cx (call α) f d A H k = (bodyK cx (call _) f d A H fun v H => some (v, H)).bind fun e => k e.1 e.2 := by
  unfold bodyK
  split
  · rename_i fn hf
    split
    · rename_i c hb
      rw [evCode_nat hc]
      conv => rhs; rw [evCode_nat hc]
      refine bind_eta fun p => ?_
      obtain ⟨e, T, H⟩ := p
      cases e
      · simp only; split <;> rfl
      · rfl
      · rfl
      · simp only; split <;> rfl
    · rfl
  · rfl
theorem evCall_nat (cx : Cx) (n : Nat) : ∀ d : Nat, CallN (fun α => evCall (α := α) cx n d) := by
  induction n with
  | zero => intro d α g A H k; rfl
  | succ n ih =>
    intro d α g A H k
    simp only [evCall]
    split
    · generalize tabVal cx g A = tv
      cases tv with
      | some v => rfl
      | none =>
      simp only
      rw [specK_nat, specK_nat (k := fun v H u => some (v, H, u))]
      generalize specK (cx.specs g) A H _ (fun v H u => some (v, H, u)) = z
      cases z with
      | none =>
        simp only [Option.map_none]
        have hb : ∀ {β : Type} {k : DV → Heap → Option β}, bodyK cx (evCall cx n (d + 1)) g d A H k = (bodyK cx (evCall cx n (d + 1)) g d A H fun v H => some (v, H)).bind fun e => k e.1 e.2 := fun {β k} => bodyK_nat (call := fun α => evCall (α := α) cx n (d + 1)) (ih (d + 1))
        split
        · rw [hb, hb (k := fun v H => some (v, H, none))]
          exact bind_eta fun p => rfl
        · rfl
      | some q =>
        simp only [Option.map_some]
    · rfl
end
end Go.Proofs.Dk

/- Loops: from one round to all. -/
namespace Go.Proofs.Dk
open Go Go.RowKit
set_option linter.unusedVariables false
set_option linter.unusedSimpArgs false
section
variable {X R : Type}
def it (s : (X → Option R) → X → Option R) : Nat → X → Option R
  | 0, _ => none
  | n + 1, x => s (it s n) x
def OneMore (s : (X → Option R) → X → Option R) : Prop := ∀ x, (∃ y, ∀ F, s F x = y) ∨ ∃ x', ∀ F, s F x = F x'
end
def exEq : Ex → Ex → Bool
  | .norm, .norm => true
  | .exit i, .exit j => i == j
  | .goto i, .goto j => i == j
  | .ret, .ret => true
  | _, _ => false
theorem exEq_ok : ∀ {a b : Ex}, exEq a b = true → a = b
  | .norm, .norm, _ => rfl
  | .exit i, .exit j, h => by simp only [exEq, beq_iff_eq] at h; rw [h]
  | .goto i, .goto j, h => by simp only [exEq, beq_iff_eq] at h; rw [h]
  | .ret, .ret, _ => rfl
def exitK {R : Type} (n : Nat) (e : Ex) (T : List DV) (H : Heap) : (os : List (Ex × Tmpl)) → (OutTy os → R) → Option R
  | [], _ => none
  | [o], g => if exEq o.1 e = true then match o.2.pr (idMet n) T H with | some (y, _) => some (g y) | none => none else none
  | o :: p :: r, g => if exEq o.1 e = true then match o.2.pr (idMet n) T H with | some (y, _) => some (g (.inl y)) | none => exitK n e T H (p :: r) (fun y => g (.inr y)) else exitK n e T H (p :: r) (fun y => g (.inr y))
def roundK (L : Loop) (F : L.X → Option L.R) : Ex → List DV → Heap → Option L.R := fun e T H => match e with
  | .norm => match L.tin.pr (idMet L.tin.os.length) T H with | some (y, _) => F (L.back y) | none => none
  | e => exitK L.tin.os.length e T H L.outs L.inn
theorem exitK_some {R : Type} {n : Nat} {e : Ex} {T : List DV} {H : Heap} : ∀ {os : List (Ex × Tmpl)} {g : OutTy os → R} {y : R}, exitK n e T H os g = some y → ∃ (t : Tmpl) (z : t.Ty) (m : Met) (o : OutTy os), t.pr (idMet n) T H = some (z, m) ∧ y = g o ∧ ∀ {β : Type} (K : Ex → (t : Tmpl) → t.Ty → Option β), outK os o K = K e t z
  | [], g, y, h => by cases h
  | [o], g, y, h => by
    simp only [exitK] at h
    split at h
    · rename_i he
      split at h
      · rename_i z m hz
        simp only [Option.some.injEq] at h
        exact ⟨o.2, z, m, z, hz, h.symm, fun K => by simp only [outK]; rw [exEq_ok he]⟩
      · cases h
    · cases h
  | o :: p :: r, g, y, h => by
    simp only [exitK] at h
    split at h
    · rename_i he
      split at h
      · rename_i z m hz
        simp only [Option.some.injEq] at h
        exact ⟨o.2, z, m, .inl z, hz, h.symm, fun K => by simp only [outK]; rw [exEq_ok he]⟩
      · obtain ⟨t, z, m, q, h1, h2, h3⟩ := exitK_some h
        exact ⟨t, z, m, .inr q, h1, h2, fun K => by simp only [outK]; exact h3 K⟩
    · obtain ⟨t, z, m, q, h1, h2, h3⟩ := exitK_some h
      exact ⟨t, z, m, .inr q, h1, h2, fun K => by simp only [outK]; exact h3 K⟩
def RoundEq (cx : Cx) (fuel f d : Nat) (L : Loop) (c : Code) (step : (L.X → Option L.R) → L.X → Option L.R) : Prop :=
  ∀ F x, evCode cx (evCall cx fuel (d + 1)) f d c (L.tin.T nam0 (L.into x)) (L.tin.H nam0 (L.into x) fun _ => none) (roundK L F) = step F x
theorem RoundEq.one {cx : Cx} {fuel f d : Nat} {L : Loop} {c : Code} {step : (L.X → Option L.R) → L.X → Option L.R} (h : RoundEq cx fuel f d L c step) : OneMore step := by
  intro x
  have hn : ∀ F, step F x = _ := fun F => (h F x).symm.trans (evCode_nat (call := fun α => evCall (α := α) cx fuel (d + 1)) (evCall_nat cx fuel (d + 1)) c)
  cases hz : evCode cx (evCall cx fuel (d + 1)) f d c (L.tin.T nam0 (L.into x)) (L.tin.H nam0 (L.into x) fun _ => none) (fun e T H => some (e, T, H)) with
  | none => exact .inl ⟨none, fun F => by rw [hn F, hz]; rfl⟩
  | some p =>
    obtain ⟨e, T, H⟩ := p
    cases e with
    | norm =>
      cases hp : L.tin.pr (idMet L.tin.os.length) T H with
      | none => exact .inl ⟨none, fun F => by rw [hn F, hz]; simp only [Option.bind_some, roundK, hp]⟩
      | some q => exact .inr ⟨L.back q.1, fun F => by rw [hn F, hz]; simp only [Option.bind_some, roundK, hp]⟩
    | exit i => exact .inl ⟨_, fun F => by rw [hn F, hz]; rfl⟩
    | goto i => exact .inl ⟨_, fun F => by rw [hn F, hz]; rfl⟩
    | ret => exact .inl ⟨_, fun F => by rw [hn F, hz]; rfl⟩
def In.dels (I : In) (l : List Nat) : In := ⟨fun m => if m ∈ l then none else I.ι m, I.R⟩
theorem HR.del {I : In} {w : World} {H : Heap} (hH : HR I w H) {n sz : Nat} {v : Value} (hn : I.ι n = some (.row sz v)) : HR (I.dels [n]) w (H.sub n .none) := by
  have hi : ∀ m, m ≠ n → (I.dels [n]).ι m = I.ι m := fun m hm => by simp [In.dels, hm]
  have h0 : (I.dels [n]).ι n = none := by simp [In.dels]
  have hb : But n .none I (I.dels [n]) w w := by
    refine ⟨⟨fun _ h => h, fun _ _ => rfl⟩, fun m b h => ?_, fun m sz v hm h => by rw [hi m hm]; exact h, fun s xs h => by cases h⟩
    rw [hi]
    · exact h
    · rintro rfl; rw [hn] at h; cases h
  refine HR.of (fun m b hm => ?_) (fun m hm => ?_) (fun m e b hm he => ?_) (fun m m' e e' b hm hm' he he' => ?_) (fun b hR => hH.rlt b hR)
  · simp only [Heap.sub] at hm
    split at hm
    · cases hm
    · rename_i hmn
      split at hm
      · rename_i b0 hb0
        simp only [Option.some.injEq] at hm
        subst hm
        cases b0 with
        | obj cs0 =>
          obtain ⟨b, c, t, k1, k2, k3⟩ := hH.obj m cs0 hb0
          exact ⟨b, c, t, hb.obj _ _ k1, k2, CR.sub hb k3⟩
        | row E' s' xs' =>
          obtain ⟨u, cs', k1, k2, k3⟩ := hH.row m E' s' xs' hb0
          exact ⟨u, cs', hb.row _ _ _ hmn k1, k2, Sh.K_keep hb.keeps k3⟩
        | mp ks vs => exact MR.sub hb (hH.mp m ks vs hb0) (fun _ _ => rfl)
      · cases hm
  · by_cases hmn : m = n
    · subst hmn; exact h0
    · rw [hi m hmn]
      simp only [Heap.sub, hmn, if_false] at hm
      split at hm
      · cases hm
      · rename_i hb0
        exact hH.dom m hb0
  · by_cases hmn : m = n
    · subst hmn; rw [h0] at hm; cases hm
    · rw [hi m hmn] at hm
      exact hH.lt m e b hm he
  · by_cases hmn : m = n
    · subst hmn; rw [h0] at hm; cases hm
    · by_cases hmn' : m' = n
      · subst hmn'; rw [h0] at hm'; cases hm'
      · rw [hi m hmn] at hm
        rw [hi m' hmn'] at hm'
        exact hH.inj m m' e e' b hm hm' he he'
theorem HR.dels : ∀ {l : List Nat} {I : In} {w : World} {H : Heap}, HR I w H → l.Nodup → (∀ n ∈ l, ∃ sz v, I.ι n = some (.row sz v)) → HR (I.dels l) w (Heap.drops l H)
  | [], I, w, H, hH, _, _ => by
    have : I.dels [] = I := by simp [In.dels]
    rw [this]
    exact hH
  | n :: l, I, w, H, hH, hd, hr => by
    obtain ⟨sz, v, hn⟩ := hr n (List.mem_cons_self ..)
    rw [List.nodup_cons] at hd
    have h1 := HR.dels (l := l) (hH.del hn) hd.2 fun m hm => by
      obtain ⟨sz, v, h⟩ := hr m (List.mem_cons_of_mem _ hm)
      have : m ≠ n := by rintro rfl; exact hd.1 hm
      exact ⟨sz, v, by simp [In.dels, this, h]⟩
    have : (I.dels [n]).dels l = I.dels (n :: l) := by
      unfold In.dels
      simp only [List.mem_cons, List.not_mem_nil, or_false, In.mk.injEq, and_true]
      funext m
      by_cases h1 : m ∈ l <;> by_cases h2 : m = n <;> simp [h1, h2]
    rw [this] at h1
    exact h1
end Go.Proofs.Dk

/- Back to the frame around. -/
namespace Go.Proofs.Dk
open Go Go.RowKit
set_option linter.unusedVariables false
set_option linter.unusedSimpArgs false
theorem mkT_len (ρ : Nam) : ∀ (ks : List IK) (c : Nat) (x : Tup ks), (mkT ρ c ks x).length = ks.length
  | [], _, _ => rfl
  | .any :: r, c, x => congrArg (· + 1) (mkT_len ρ r (c + 1) x)
  | .val _ :: r, c, x => congrArg (· + 1) (mkT_len ρ r (c + 1) x.2)
  | .row _ _ :: r, c, x => congrArg (· + 1) (mkT_len ρ r (c + 1) x.2)
  | .agf _ _ :: r, c, x => congrArg (· + 1) (mkT_len ρ r (c + 1) x.2)
  | .obj _ :: r, c, x => congrArg (· + 1) (mkT_len ρ r (c + 1) x)
  | .clo _ _ :: r, c, x => congrArg (· + 1) (mkT_len ρ r (c + 1) x)
  | .tab _ _ :: r, c, x => congrArg (· + 1) (mkT_len ρ r (c + 1) x)
theorem names_o {t : Tmpl} {ρ : Nam} {i : Nat} (h : i < t.os.length) : ρ.o i ∈ t.names ρ := by
  have : ∀ (os : List (List IK)) (j i : Nat), i < os.length → ρ.o (j + i) ∈ onames ρ j os := by
    intro os
    induction os with
    | nil => intro j i h; simp at h
    | cons k r ih =>
      intro j i h
      cases i with
      | zero => simp [onames]
      | succ i =>
        simp only [onames, List.mem_cons, List.mem_append]
        exact .inr (.inr (by rw [show j + (i + 1) = j + 1 + i by omega]; exact ih (j + 1) i (by simpa using h)))
  have := this t.os 0 i h
  rw [Nat.zero_add] at this
  exact List.mem_append_right _ this
theorem pr_met {t : Tmpl} {m0 m : Met} {I : In} {w : World} {H : Heap} {x : t.Ty} {T : List DV} {vals : Nat → Value} (hH : HR I w H) (h : t.pr m0 T H = some (x, m)) (hV : ∀ i, VR I w (T.getD i .undef) (vals i)) : m0.σ ⊆ m.σ ∧ (∀ e ∈ m.σ, e.1 < t.os.length) ∧ (m.σ.map (·.1)).Nodup := by
  unfold Tmpl.pr at h
  split at h
  · rename_i x1 m1 h1
    split at h
    · rename_i y m2 h2
      split at h
      · rename_i hc
        simp only [Option.some.injEq, Prod.mk.injEq] at h
        obtain ⟨rfl, rfl⟩ := h
        simp only [Bool.and_eq_true, List.all_eq_true, decide_eq_true_eq] at hc
        obtain ⟨es, g1, _⟩ := prT_ok (ρ := nam0) (c := 0) hH h1 hV
        obtain ⟨es', k1, _⟩ := prO_ok (ρ := nam0) hH h2
        exact ⟨fun e he => (g1.trans k1).σ e he, hc.2, nodupB_ok hc.1.2⟩
      · cases h
    · cases h
  · cases h
theorem idMet_mem {n i : Nat} (h : i < n) : (i, i) ∈ (idMet n).σ := by
  unfold idMet
  exact List.mem_map.2 ⟨i, by simpa using h, rfl⟩
theorem outNam_o {H : Heap} {b : Nat} {m : Met} {i n : Nat} (hk : (m.σ.map (·.1)).Nodup) (h : (i, n) ∈ m.σ) : (outNam H b m).o i = n := by
  have : m.get i = some n := by
    unfold Met.get
    cases hf : m.σ.find? (fun e => e.1 == i) with
    | none => exact absurd (List.find?_eq_none.1 hf (i, n) h) (by simp)
    | some p =>
      have hp := List.find?_some hf
      have hpm := List.mem_of_find?_eq_some hf
      simp only [beq_iff_eq] at hp
      have := nodup_map_inj hk hpm h hp
      rw [this]
      rfl
  simp only [outNam, this]
theorem back_ok {I I0 I2 : In} {w w2 : World} {H H2 : Heap} {tin t : Tmpl} {x : tin.Ty} {z : t.Ty} {m m1 : Met} {v0 vals : Nat → Value} {T2 : List DV} {ρ : Nam} (hH : HR I w H) (h0 : Lay I ⟨fun _ => none, I.R⟩ I0 w tin nam0 x m v0 (fun _ => none)) (he : Ext I0 w I2 w2) (hH2 : HR I2 w2 H2) (hpr : t.pr (idMet tin.os.length) T2 H2 = some (z, m1)) (hV : ∀ i, VR I2 w2 (T2.getD i .undef) (vals i))
    (hρ : ∀ i n, (i, n) ∈ m.σ → ρ.o i = n) (hfree : t.free ρ ((Heap.drops m.u H).away m) = true) :
    ∃ I4, HR I4 w2 (t.H ρ z ((Heap.drops m.u H).away m)) ∧ (∀ i, VR I4 w2 ((t.T ρ z).getD i .undef) (vals i)) ∧ Ext I w I4 w2 ∧ (∀ n sz v, n ∉ m.u → I.ι n = some (.row sz v) → I4.ι n = some (.row sz v)) ∧ t.ks.length ≤ T2.length := by
  obtain ⟨p1, p2, p3⟩ := pr_met hH2 hpr hV
  have hu0 := (List.nodup_append.1 h0.nd).1
  have hd := hH.dels hu0 h0.rows
  -- what has a name within has one around
  have nm : ∀ n e g, I0.ι n = some e → e.blk = some g → ∃ n' e', I.ι n' = some e' ∧ e'.blk = some g ∧ (n' ∈ m.u ∨ n' ∈ m.σ.map (·.2)) := by
    intro n e g hn hg
    by_cases hm : n ∈ tin.names nam0
    · exact h0.old n e g hm hn hg
    · rw [h0.out n hm] at hn
      cases hn
  have dl : ∀ n e, (I.dels m.u).ι n = some e → I.ι n = some e ∧ n ∉ m.u := by
    intro n e hn
    simp only [In.dels] at hn
    split at hn
    · cases hn
    · rename_i hnu
      exact ⟨hn, hnu⟩
  have ob : ∀ i n, (i, n) ∈ m.σ → i < tin.os.length ∧ i < t.os.length ∧ (i, i) ∈ m1.σ ∧ ρ.o i = n ∧ ∃ q, I.ι n = some (.obj q) ∧ I2.ι i = some (.obj q) := by
    intro i n hin
    have hi := h0.met _ hin
    have hii := p1 (idMet_mem hi)
    refine ⟨hi, p2 _ hii, hii, hρ i n hin, ?_⟩
    obtain ⟨n', q, e1, e2, e3⟩ := h0.obj i hi
    have : (i, n') = (i, n) := nodup_map_inj h0.key e1 hin rfl
    simp only [Prod.mk.injEq, true_and] at this
    subst this
    exact ⟨q, e2, he.obj _ _ e3⟩
  have away : ∀ n q, ((Heap.drops m.u H).away m) n = some q → (Heap.drops m.u H) n = some q ∧ n ∉ m.σ.map (·.2) := by
    intro n q hn
    simp only [Heap.away] at hn
    split at hn
    · cases hn
    · rename_i hs
      refine ⟨hn, fun hm => hs ?_⟩
      obtain ⟨e, e1, e2⟩ := List.mem_map.1 hm
      exact List.any_eq_true.2 ⟨e, e1, by simpa using e2⟩
  have awayN : ∀ n, ((Heap.drops m.u H).away m) n = none → (Heap.drops m.u H) n = none ∨ ∃ i, (i, n) ∈ m.σ := by
    intro n hn
    simp only [Heap.away] at hn
    split at hn
    · rename_i hs
      obtain ⟨e, e1, e2⟩ := List.any_eq_true.1 hs
      simp only [beq_iff_eq] at e2
      exact .inr ⟨e.1, by rw [← e2]; exact e1⟩
    · exact .inl hn
  have hnone : ∀ n, n ∈ t.names ρ → ((Heap.drops m.u H).away m) n = none := by
    unfold Tmpl.free at hfree
    simp only [Bool.and_eq_true, List.all_eq_true, Option.isNone_iff_eq_none] at hfree
    exact hfree.2
  have apart : ∀ n e g, (I.dels m.u).ι n = some e → e.blk = some g → n ∉ m.σ.map (·.2) → ∀ n' e', I0.ι n' = some e' → e'.blk ≠ some g := by
    intro n e g hn hg hns n' e' hn' hg'
    obtain ⟨n2, e2, k1, k2, k3⟩ := nm n' e' g hn' hg'
    obtain ⟨d1, d2⟩ := dl n e hn
    have := hH.inj n n2 e e2 g d1 k1 hg k2
    subst this
    rcases k3 with k3 | k3
    · exact d2 k3
    · exact hns k3
  have nsig : ∀ n, n ∉ t.names ρ → n ∉ m.σ.map (·.2) := by
    intro n hn hm
    obtain ⟨⟨i, n'⟩, e1, e2⟩ := List.mem_map.1 hm
    simp only at e2
    subst e2
    obtain ⟨_, i2, _, i4, _⟩ := ob i n' e1
    exact hn (i4 ▸ names_o i2)
  have hbase : Base I2 (I.dels m.u) w2 t ρ m1 ((Heap.drops m.u H).away m) := by
    refine ⟨fun n q hq => ?_, fun n hn hm => ?_, fun n e hm hn => ?_, fun n e g hm hn hg => ?_, fun n n' e e' g _ _ hn hn' hg hg' => hd.inj n n' e e' g hn hn' hg hg', fun g hg => he.ro g (by rw [h0.R]; exact hg), fun n e n' e' g hm hn hn' _ hg hg' => ?_⟩
    · obtain ⟨h1, h2⟩ := away n q hq
      have hs : Same (I.dels m.u) (I.dels m.u) w w2 := by
        refine ⟨⟨fun _ h => h, fun g hg => he.same g (hH.rlt g hg) fun n' e' hn' hg' => ?_⟩, fun _ _ h => h, fun _ _ _ h => h⟩
        obtain ⟨n2, e2, k1, k2, _⟩ := nm n' e' g hn' hg'
        exact (hH.lt n2 e2 g k1 k2).2 hg
      exact (hd.br h1).keep hs fun e g hn hg => he.same g (hd.lt n e g hn hg).1 (apart n e g hn hg h2)
    · rcases awayN n hn with h1 | ⟨i, h1⟩
      · exact hd.dom n h1
      · exact absurd (List.mem_map_of_mem (f := (·.2)) h1) (nsig n hm)
    · rcases awayN n (hnone n hm) with h1 | ⟨i, h1⟩
      · rw [hd.dom n h1] at hn; cases hn
      · obtain ⟨_, _, i3, i4, q, i5, i6⟩ := ob i n h1
        refine ⟨i, i, i3, i4.symm, ?_⟩
        rw [(dl n e hn).1] at i5
        rw [i5]
        exact i6
    · have h1 := hd.lt n e g hn hg
      refine ⟨Nat.lt_of_lt_of_le h1.1 he.size, fun hR => ?_⟩
      rcases he.newR g hR with h2 | ⟨n', e', h2, h3⟩ | h2
      · rw [h0.R] at h2
        exact h1.2 h2
      · exact apart n e g hn hg (nsig n hm) n' e' h2 h3
      · omega
    · have h1 := hd.lt n e g hn hg
      rcases he.own n' e' g hn' hg' with ⟨n2, e2, h2, h3⟩ | h2
      · exact apart n e g hn hg (nsig n hm) n2 e2 h2 h3
      · omega
  obtain ⟨⟨I4, hl⟩, hlen, _⟩ := lay_ok hH2 rfl hpr hV hbase hfree
  have keep : ∀ n e, n ∉ m.u → I.ι n = some e → I4.ι n = some e := fun n e hn h => hl.same n e (by simp only [In.dels, hn, if_false]; exact h)
  refine ⟨I4, hl.hr, hl.val, ⟨fun n g hn => ?_, fun g hg => ?_, fun g hg hn => ?_, fun n e g hn hg => ?_, fun g hg => ?_, he.size, he.os, he.tape, he.output⟩, fun n sz v hn h => keep n _ hn h, hlen⟩
  · refine keep n _ (fun hu => ?_) hn
    obtain ⟨sz, v, h1⟩ := h0.rows n hu
    rw [hn] at h1
    cases h1
  · rw [hl.R]
    exact he.ro g (by rw [h0.R]; exact hg)
  · refine he.same g hg fun n e hn' he' => ?_
    obtain ⟨n2, e2, k1, k2, _⟩ := nm n e g hn' he'
    exact hn n2 e2 k1 k2
  · have within : ∀ n' e', I2.ι n' = some e' → e'.blk = some g → (∃ m e', I.ι m = some e' ∧ e'.blk = some g) ∨ w.heap.size ≤ g := by
      intro n' e' h1 h2
      rcases he.own n' e' g h1 h2 with ⟨n2, e2, h3, h4⟩ | h3
      · obtain ⟨n3, e3, k1, k2, _⟩ := nm n2 e2 g h3 h4
        exact .inl ⟨n3, e3, k1, k2⟩
      · exact .inr h3
    by_cases hm : n ∈ t.names ρ
    · obtain ⟨n', e', h1, h2, _⟩ := hl.old n e g hm hn hg
      exact within n' e' h1 h2
    · rw [hl.out n hm] at hn
      exact .inl ⟨n, e, (dl n e hn).1, hg⟩
  · rw [hl.R] at hg
    rcases he.newR g hg with h1 | ⟨n, e, h1, h2⟩ | h1
    · rw [h0.R] at h1
      exact .inl h1
    · obtain ⟨n3, e3, k1, k2, _⟩ := nm n e g h1 h2
      exact .inr (.inl ⟨n3, e3, k1, k2⟩)
    · exact .inr (.inr h1)
end Go.Proofs.Dk

/- Loops and functions: from their equations. -/
namespace Go.Proofs.Dk
open Go Go.RowKit
set_option linter.unusedVariables false
set_option linter.unusedSimpArgs false
theorem ext_lay {I0 I1 I2 : In} {w w1 : World} {t : Tmpl} {x z : t.Ty} {m0 m : Met} {v0 vals : Nat → Value} {I : In} (h0 : Lay I ⟨fun _ => none, I.R⟩ I0 w t nam0 x m0 v0 (fun _ => none)) (he : Ext I0 w I1 w1) (hl : Lay I1 ⟨fun _ => none, I1.R⟩ I2 w1 t nam0 z m vals (fun _ => none)) (hm : (idMet t.os.length).σ ⊆ m.σ) : Ext I0 w I2 w1 := by
  refine ⟨fun n b hn => ?_, fun g hg => by rw [hl.R]; exact he.ro g hg, he.same, fun n e g hn hg => ?_, fun g hg => by rw [hl.R] at hg; exact he.newR g hg, he.size, he.os, he.tape, he.output⟩
  · by_cases hnm : n ∈ t.names nam0
    · rcases h0.row n _ hnm hn with ⟨b', e1, i, hi, hni⟩ | ⟨sz, v, e1⟩
      · have hni' : n = i := hni
        subst hni'
        have h1 := he.obj _ _ hn
        obtain ⟨n', b2, e2, e3, e4⟩ := hl.obj n hi
        have : (n, n') = (n, n) := nodup_map_inj hl.key e2 (hm (idMet_mem hi)) rfl
        simp only [Prod.mk.injEq, true_and] at this
        subst this
        rw [h1] at e3
        simp only [Option.some.injEq, Ent.obj.injEq] at e3
        subst e3
        exact e4
      · cases e1
    · rw [h0.out n hnm] at hn
      cases hn
  · by_cases hnm : n ∈ t.names nam0
    · obtain ⟨n', e', h1, h2, _⟩ := hl.old n e g hnm hn hg
      exact he.own n' e' g h1 h2
    · rw [hl.out n hnm] at hn
      cases hn
theorem lay_frame {I2 : In} {w : World} {t : Tmpl} {x : t.Ty} {ρ : Nam} {a : Act} (hv : ∀ i, VR I2 w ((t.T ρ x).getD i .undef) (a.tmps.getD i undef)) (hl : t.ks.length ≤ a.tmps.size) (hd : a.defers = []) : TR I2 w (t.T ρ x) a :=
  ⟨by unfold Tmpl.T; rw [mkT_len]; exact hl, hv, hd⟩
theorem loopOk {cx : Cx} {fuel f d : Nat} {L : Loop} {c : Code} {step : (L.X → Option L.R) → L.X → Option L.R} (hg : Good cx) (hsub : ∀ id L', cx.loops f id = some L' → ∀ c', (id, c') ∈ loopsOf c → LoopOk cx.P L' c') (heq : RoundEq cx fuel f d L c step) (hfn : ∀ x y, L.fn x = some y → ∃ n, it step n x = some y) (hib : ∀ y, L.into (L.back y) = y) (hoi : ∀ o, L.out (L.inn o) = o)
    (hnam : L.tin.free nam0 (fun _ => none) = true) : LoopOk cx.P L (.loop c) := by
  intro α I w T a H b k r hT hH h
  unfold loopK at h
  split at h
  · rename_i x m hx
    obtain ⟨y, hy, hout⟩ := Option.bind_eq_some_iff.1 h
    obtain ⟨n, hn⟩ := hfn _ _ hy
    obtain ⟨⟨I0, hL0⟩, hlen, _⟩ := lay_ok (ρ := nam0) hH rfl hx hT.val (baseNone I w L.tin nam0 m) hnam
    refine wp_loop_fuel (n := n) (fun n a' w' => ∃ I' X, Ext I0 w I' w' ∧ HR I' w' (L.tin.H nam0 (L.into X) fun _ => none) ∧ TR I' w' (L.tin.T nam0 (L.into X)) a' ∧ it step n X = some y) ?_ ?_ ?_
    · refine ⟨I0, L.back x, Ext.refl I0 w, by rw [hib]; exact hL0.hr, ?_, hn⟩
      rw [hib]
      exact lay_frame hL0.val (Nat.le_trans hlen hT.len) hT.df
    · rintro a w ⟨I', X, _, _, _, h⟩
      cases h
    · rintro n a1 w1 ⟨I1, X, he1, hH1, hT1, h1⟩
      have h2 := (heq (it step n) X).trans h1
      refine Code.wp_mono ?_ (evCode_ok hg (evCall_ok hg fuel (d + 1)) c hsub hT1 hH1 h2)
      rintro e a2 w2 ⟨I2, T2, H2, ex, hex, he2, hH2, hT2, h3⟩
      have he := he1.trans he2
      have out : exitK L.tin.os.length ex T2 H2 L.outs L.inn = some y → PostC I w k r e a2 w2 := by
        intro hxk
        obtain ⟨t, z, m1, o, hz, hyo, hK⟩ := exitK_some hxk
        rw [hyo, hoi, hK] at hout
        simp only at hout
        split at hout
        · rename_i hfree
          obtain ⟨I4, g1, g2, g3, _, g4⟩ := back_ok hH hL0 he hH2 hz hT2.val (fun i n hin => outNam_o hL0.key hin) hfree
          exact ⟨I4, _, _, ex, hex, g3, g1, lay_frame g2 (Nat.le_trans g4 hT2.len) hT2.df, hout⟩
        · cases hout
      cases ex with
      | norm =>
        cases e <;> first | exact hex.elim | skip
        simp only [roundK] at h3
        split at h3
        · rename_i z m1 hz
          obtain ⟨⟨I3, hL3⟩, hlen3, hm3⟩ := lay_ok (ρ := nam0) hH2 rfl hz hT2.val (baseNone I2 w2 L.tin nam0 m1) hnam
          refine ⟨I3, L.back z, ext_lay hL0 he hL3 hm3, by rw [hib]; exact hL3.hr, ?_, h3⟩
          rw [hib]
          exact lay_frame hL3.val (Nat.le_trans hlen3 hT2.len) hT2.df
        · cases h3
      | exit i =>
        have := out h3
        cases e <;> first | exact hex.elim | exact this
      | goto i =>
        have := out h3
        cases e <;> first | exact hex.elim | exact this
      | ret =>
        have := out h3
        cases e <;> first | exact hex.elim | exact this
  · cases h
def joinK (L : Loop) : Ex → List DV → Heap → Option L.R := fun e T H => exitK L.tin.os.length e T H L.outs L.inn
theorem joinOk {cx : Cx} {fuel f d : Nat} {L : Loop} {c : Code} (hg : Good cx) (hsub : ∀ id L', cx.loops f id = some L' → ∀ c', (id, c') ∈ loopsOf c → LoopOk cx.P L' c') (heq : ∀ x, evCode cx (evCall cx fuel (d + 1)) f d c (L.tin.T nam0 (L.into x)) (L.tin.H nam0 (L.into x) fun _ => none) (joinK L) = L.fn x) (hib : ∀ y, L.into (L.back y) = y) (hoi : ∀ o, L.out (L.inn o) = o)
    (hnam : L.tin.free nam0 (fun _ => none) = true) : LoopOk cx.P L c := by
  intro α I w T a H b k r hT hH h
  unfold loopK at h
  split at h
  · rename_i x m hx
    obtain ⟨y, hy, hout⟩ := Option.bind_eq_some_iff.1 h
    obtain ⟨⟨I0, hL0⟩, hlen, _⟩ := lay_ok (ρ := nam0) hH rfl hx hT.val (baseNone I w L.tin nam0 m) hnam
    have hT1 : TR I0 w (L.tin.T nam0 (L.into (L.back x))) a := by
      rw [hib]
      exact lay_frame hL0.val (Nat.le_trans hlen hT.len) hT.df
    have hH1 : HR I0 w (L.tin.H nam0 (L.into (L.back x)) fun _ => none) := by rw [hib]; exact hL0.hr
    refine Code.wp_mono ?_ (evCode_ok hg (evCall_ok hg fuel (d + 1)) c hsub hT1 hH1 ((heq _).trans hy))
    rintro e a2 w2 ⟨I2, T2, H2, ex, hex, he, hH2, hT2, hxk⟩
    obtain ⟨t, z, m1, o, hz, hyo, hK⟩ := exitK_some hxk
    rw [hyo, hoi, hK] at hout
    simp only at hout
    split at hout
    · rename_i hfree
      obtain ⟨I4, g1, g2, g3, _, g4⟩ := back_ok hH hL0 he hH2 hz hT2.val (fun i n hin => outNam_o hL0.key hin) hfree
      exact ⟨I4, _, _, ex, hex, g3, g1, lay_frame g2 (Nat.le_trans g4 hT2.len) hT2.df, hout⟩
    · cases hout
  · cases h
def unTup : Nat → DV → Option (List DV)
  | 1, v => some [v]
  | n, .tup l => if l.length = n then some l else none
  | _, _ => none
def retK (S : FS) : DV → Heap → Option S.R := fun v H => match unTup S.tout.ks.length v with
  | some l => match (if pureK S.tout.ks = true then solidA l [] H else (l, [], H)) with
    | (l, _, H) => match S.tout.pr (idMet S.tin.os.length) l H with
      | some (z, _) => some (S.inn z)
      | none => none
  | none => none
def FnEq (cx : Cx) (fuel f d : Nat) (S : FS) : Prop := ∀ x, bodyK cx (evCall cx fuel (d + 1)) f d (S.tin.T nam0 x) (S.tin.H nam0 x fun _ => none) (retK S) = S.fn x
theorem unTup_ok {I : In} {w : World} {n : Nat} {v : DV} {u : Value} {l : List DV} (hv : VR I w v u) (h : unTup n v = some l) : ∃ us : List Value, us.length = n ∧ LR I w l us ∧ (∀ {I' : In} {l' : List DV}, LR I' w l' us → VR I' w (tupD l') u) := by
  unfold unTup at h
  split at h
  · simp only [Option.some.injEq] at h
    subst h
    refine ⟨[u], rfl, .cons _ _ _ _ hv .nil, fun {I' l'} hl => ?_⟩
    cases hl with | cons d r _ _ hd hr => cases hr; exact hd
  · rename_i l0 hn
    split at h
    · rename_i hlen
      simp only [Option.some.injEq] at h
      subst h
      cases hv with | tup _ vs hl =>
      refine ⟨vs.toList, by rw [← hlen, hl.length], hl, fun {I' l'} hl' => ?_⟩
      have h1 := hl'.length
      have h2 := hl.length
      cases l' with
      | nil => exact .tup _ vs hl'
      | cons d r => cases r with
        | nil =>
          exfalso
          apply hn
          rw [← hlen, h2, ← h1]
          rfl
        | cons d' r' => exact .tup _ vs hl'
    · cases h
  · cases h
end Go.Proofs.Dk

/- Functions: from their equations. -/
namespace Go.Proofs.Dk
open Go Go.RowKit
set_option linter.unusedVariables false
set_option linter.unusedSimpArgs false
theorem LR.of {I : In} {w : World} : ∀ {l : List DV} {us : List Value}, l.length = us.length → (∀ i, VR I w (l.getD i .undef) (us.getD i undef)) → LR I w l us
  | [], [], _, _ => .nil
  | [], u :: us, h, _ => by simp at h
  | d :: l, [], h, _ => by simp at h
  | d :: l, u :: us, h, hv => .cons _ _ _ _ (hv 0) (LR.of (by simpa using h) (fun i => by simpa using hv (i + 1)))
theorem specOk {cx : Cx} {fuel f d : Nat} {S : FS} (hg : Good cx) (heq : FnEq cx fuel f d S) (hoi : ∀ o, S.out (S.inn o) = o) (hnam : S.tin.free nam0 (fun _ => none) = true) : SpecOk cx.P f S := by
  intro α I w H A args ρ k r x m hH hA hx hρ h
  obtain ⟨y, hy, hk⟩ := Option.bind_eq_some_iff.1 h
  obtain ⟨⟨I0, hL0⟩, hlen, _⟩ := lay_ok (ρ := nam0) hH rfl hx (vals := fun i => args.getD i undef) (fun i => hA.getD i) (baseNone I w S.tin nam0 m) hnam
  have hle : (S.tin.T nam0 x).length ≤ args.length := by
    unfold Tmpl.T
    rw [mkT_len, ← hA.length]
    exact hlen
  have hb := (heq x).trans hy
  refine Calls.mono (bodyK_ok hg (evCall_ok hg fuel (d + 1)) hL0.hr hle hL0.val hb) ?_
  rintro e w' he
  cases e with
  | returned z =>
    obtain ⟨I', v, H', h1, h2, h3, h4⟩ := he
    unfold retK at h1
    split at h1
    · rename_i l hl
      split at h1
      rename_i A1 T1 H1 hs
      obtain ⟨us, u1, u2', u3⟩ := unTup_ok h4 hl
      obtain ⟨I1, h3', h2', u2⟩ : ∃ I1, HR I1 w' H1 ∧ Ext I' w' I1 w' ∧ LR I1 w' A1 us := by
        split at hs
        · obtain ⟨I1, q1, q2, _, q4⟩ := solid_ok (a := ⟨#[], []⟩) h3 ⟨Nat.le_refl _, fun i => .undef _, rfl⟩ u2' hs
          exact ⟨I1, q1, q2, q4⟩
        · simp only [Prod.mk.injEq] at hs
          obtain ⟨rfl, rfl, rfl⟩ := hs
          exact ⟨I', h3, Ext.refl _ _, u2'⟩
      split at h1
      · rename_i zz m1 hz
        simp only [Option.some.injEq] at h1
        rw [← h1, hoi] at hk
        split at hk
        · rename_i hfree
          obtain ⟨I4, g1, g2, g3, g4, g5⟩ := back_ok hH hL0 (h2.trans h2') h3' hz (vals := fun i => us.getD i undef) (fun i => u2.getD i) hρ hfree
          refine ⟨I4, _, _, _, hk, g3, g1, u3 (LR.of ?_ g2), fun l hl n sz v hn hi => ?_⟩
          · unfold Tmpl.T
            rw [mkT_len, u1]
          · simp only [Option.some.injEq] at hl
            subst hl
            exact g4 n sz v hn hi
        · cases hk
      · cases h1
    · cases h1
  | _ => exact he.elim
theorem prT_pure : ∀ {ks : List IK} {H : Heap} {T : List DV} {m m' : Met} {x : Tup ks}, pureK ks = true → prT H ks T m = some (x, m') → m' = m ∧ ∀ H', prT H' ks T m = some (x, m)
  | [], H, T, m, m', x, hp, h => by
    cases T with
    | cons d r => simp only [prT] at h; cases h
    | nil =>
    simp only [prT, Option.some.injEq, Prod.mk.injEq] at h
    exact ⟨h.2.symm, fun H' => rfl⟩
  | .any :: r, H, T, m, m', x, hp, h => by
    simp only [prT] at h ⊢
    split at h
    · exact prT_pure hp h
    · cases h
  | .val s :: r, H, T, m, m', x, hp, h => by
    simp only [prT] at h ⊢
    split at h
    · split at h
      · rename_i y hy
        split at h
        · rename_i z m1 hz
          simp only [Option.some.injEq, Prod.mk.injEq] at h
          obtain ⟨rfl, rfl⟩ := h
          obtain ⟨h1, h2⟩ := prT_pure (ks := r) hp hz
          exact ⟨h1, fun H' => by simp only [hy, h2 H']⟩
        · cases h
      · cases h
    · cases h
  | .agf s F :: r, H, T, m, m', x, hp, h => by
    simp only [prT] at h ⊢
    split at h
    · split at h
      · rename_i y F' hy
        split at h
        · rename_i hF
          split at h
          · rename_i z m1 hz
            simp only [Option.some.injEq, Prod.mk.injEq] at h
            obtain ⟨rfl, rfl⟩ := h
            obtain ⟨h1, h2⟩ := prT_pure (ks := r) hp hz
            exact ⟨h1, fun H' => by simp only [hy, hF, if_true, h2 H']⟩
          · cases h
        · cases h
      · cases h
    · cases h
  | .row E s :: r, H, T, m, m', x, hp, h => by cases hp
  | .obj i :: r, H, T, m, m', x, hp, h => by cases hp
  | .clo F [] :: r, H, T, m, m', x, hp, h => by
    simp only [prT] at h ⊢
    split at h
    · split at h
      · rename_i hF
        split at h
        · rename_i m1 hm
          have hm' := hm
          simp only [prP] at hm
          split at hm
          · simp only [Option.some.injEq] at hm
            subst hm
            obtain ⟨h1, h2⟩ := prT_pure (ks := r) hp h
            exact ⟨h1, fun H' => by simp only [hF, if_true, hm', h2 H']⟩
          · cases hm
        · cases h
      · cases h
    · cases h
  | .clo F (i :: is) :: r, H, T, m, m', x, hp, h => by cases hp
  | .tab ks vs :: r, H, T, m, m', x, hp, h => by cases h
theorem mkT_pure {ρ ρ' : Nam} : ∀ {ks : List IK} {c c' : Nat} {x : Tup ks}, pureK ks = true → mkT ρ c ks x = mkT ρ' c' ks x
  | [], _, _, _, _ => rfl
  | .any :: r, c, c', x, hp => by simp only [mkT]; rw [mkT_pure (ρ' := ρ') (c' := c' + 1) (ks := r) hp]
  | .val s :: r, c, c', x, hp => by simp only [mkT]; rw [mkT_pure (ρ' := ρ') (c' := c' + 1) (ks := r) hp]
  | .agf s F :: r, c, c', x, hp => by simp only [mkT]; rw [mkT_pure (ρ' := ρ') (c' := c' + 1) (ks := r) hp]
  | .row E s :: r, c, c', x, hp => by cases hp
  | .obj i :: r, c, c', x, hp => by cases hp
  | .clo F [] :: r, c, c', x, hp => by simp only [mkT]; rw [mkT_pure (ρ' := ρ') (c' := c' + 1) (ks := r) hp]; rfl
  | .clo F (i :: is) :: r, c, c', x, hp => by cases hp
  | .tab _ _ :: r, c, c', x, hp => by simp only [mkT]; rw [mkT_pure (ρ' := ρ') (c' := c' + 1) (ks := r) hp]
theorem mkR_pure {ρ : Nam} : ∀ {ks : List IK} {c : Nat} {x : Tup ks} {H : Heap}, pureK ks = true → mkR ρ c ks x H = H ∧ rnames ρ c ks = []
  | [], _, _, _, _ => ⟨rfl, rfl⟩
  | .any :: r, c, x, H, hp => by simp only [mkR, rnames]; exact mkR_pure (ks := r) hp
  | .val s :: r, c, x, H, hp => by simp only [mkR, rnames]; exact mkR_pure (ks := r) hp
  | .agf s F :: r, c, x, H, hp => by simp only [mkR, rnames]; exact mkR_pure (ks := r) hp
  | .row E s :: r, c, x, H, hp => by cases hp
  | .obj i :: r, c, x, H, hp => by cases hp
  | .clo F [] :: r, c, x, H, hp => by simp only [mkR, rnames]; exact mkR_pure (ks := r) hp
  | .clo F (i :: is) :: r, c, x, H, hp => by cases hp
  | .tab _ _ :: r, c, x, H, hp => by simp only [mkR, rnames]; exact mkR_pure (ks := r) hp
theorem pureOk {P : Program} {f : FuncId} {S : FS} (h : SpecOk P f S) (hp : FS.pure S = true) : PureOk P f S := by
  intro I w H A args X m Y hH hA hX hY
  obtain ⟨⟨ks, os⟩, ⟨oks, oos⟩, R, out, inn, fn⟩ := S
  simp only [FS.pure, Bool.and_eq_true, List.isEmpty_iff] at hp
  obtain ⟨⟨⟨p1, p2⟩, p3⟩, p4⟩ := hp
  subst p2 p4
  have hpr : m = ⟨[], []⟩ ∧ Tmpl.pr ⟨ks, []⟩ ⟨[], []⟩ A H = some (X, m) := by
    unfold Tmpl.pr at hX ⊢
    split at hX
    · rename_i x m1 hx
      obtain ⟨rfl, h2⟩ := prT_pure p1 hx
      simp only [prO] at hX
      split at hX
      · rename_i hc
        simp only [Option.some.injEq, Prod.mk.injEq] at hX
        obtain ⟨rfl, rfl⟩ := hX
        refine ⟨rfl, ?_⟩
        simp only [h2 H, prO]
        rw [if_pos hc]
      · cases hX
    · cases hX
  obtain ⟨rfl, hpr⟩ := hpr
  have hfree : ∀ (ρ : Nam) (H : Heap), Tmpl.free ⟨oks, []⟩ ρ H = true := by
    intro ρ H
    have : Tmpl.names ⟨oks, []⟩ ρ = [] := by
      unfold Tmpl.names
      simp only [onames, List.append_nil]
      cases hY' : out Y with
      | mk a b => exact (mkR_pure (ρ := ρ) (c := 0) (x := a) (H := H) p3).2
    unfold Tmpl.free
    rw [this]
    rfl
  refine Calls.mono (h (ρ := nam0) (k := fun v H u => some (v, H, u)) hH hA hpr (fun i n h => by cases h) (by have hY' : fn X = some Y := hY; simp only [hY', Option.bind_some]; exact if_pos (hfree _ _))) ?_
  rintro e w' he
  cases e with
  | returned z =>
    obtain ⟨I', v, H', u, h1, h2, h3, h4, h5⟩ := he
    simp only [Option.some.injEq, Prod.mk.injEq] at h1
    obtain ⟨rfl, rfl, rfl⟩ := h1
    refine ⟨I', h2, ⟨fun n sz v hn => h5 _ rfl n sz v (by simp) hn⟩, ?_, ?_⟩
    · have e1 : (Heap.drops [] H).away ⟨[], []⟩ = H := rfl
      have e2 : ∀ ρ H0, Tmpl.H ⟨oks, []⟩ ρ (out Y) H0 = H0 := fun ρ H0 => by
        unfold Tmpl.H
        simp only [mkO]
        exact (mkR_pure p3).1
      rw [e2, e1] at h3
      exact h3
    · have : Tmpl.T ⟨oks, []⟩ nam0 (out Y) = Tmpl.T ⟨oks, []⟩ nam0 (out Y) := mkT_pure p3
      rw [this] at h4
      exact h4
  | _ => exact he.elim
end Go.Proofs.Dk

/- Tables. -/
namespace Go.Proofs.Dk
open Go Go.RowKit
set_option linter.unusedVariables false
set_option linter.unusedSimpArgs false
def Cx.addSpec (cx : Cx) (f : FuncId) (S : FS) : Cx := ⟨cx.P, cx.loops, fun g => if Nat.beq g f then S :: cx.specs g else cx.specs g, cx.tabs⟩
def Cx.addLoop (cx : Cx) (f : FuncId) (id : Nat) (L : Loop) : Cx := ⟨cx.P, fun g i => if Nat.beq g f && Nat.beq i id then some L else cx.loops g i, cx.specs, cx.tabs⟩
def Cx.bare (cx : Cx) : Cx := ⟨cx.P, fun _ _ => none, cx.specs, cx.tabs⟩
def cx0 (P : Program) : Cx := ⟨P, fun _ _ => none, fun _ => [], fun _ => none⟩
theorem good0 (P : Program) : Good (cx0 P) := ⟨fun f S h => (by cases h), fun f id L h => (by cases h), fun f S h => (by cases h), fun f t h => (by cases h)⟩
theorem Good.bare {cx : Cx} (h : Good cx) : Good cx.bare := ⟨h.specs, fun f id L hl => (by cases hl), h.pures, h.tabs⟩
theorem Good.addSpec {cx : Cx} (h : Good cx) {f : FuncId} {S : FS} (hS : SpecOk cx.P f S) : Good (cx.addSpec f S) := by
  have key : ∀ g S', S' ∈ (cx.addSpec f S).specs g → S' ∈ cx.specs g ∨ (g = f ∧ S' = S) := by
    intro g S' hm
    simp only [Cx.addSpec] at hm
    split at hm
    · rename_i hg
      rcases List.mem_cons.1 hm with rfl | hm
      · exact .inr ⟨Nat.eq_of_beq_eq_true hg, rfl⟩
      · exact .inl hm
    · exact .inl hm
  refine ⟨fun g S' hm => ?_, h.loops, fun g S' hm hp => ?_, h.tabs⟩
  · rcases key g S' hm with hm | ⟨rfl, rfl⟩
    · exact h.specs g S' hm
    · exact hS
  · rcases key g S' hm with hm | ⟨rfl, rfl⟩
    · exact h.pures g S' hm hp
    · exact pureOk hS hp
def loopsAt (P : Program) (f : FuncId) (id : Nat) : List Code := match P.funcs[f]? with
  | some fn => match fn.body with
    | some c => (loopsOf c).filterMap fun p => if Nat.beq p.1 id then some p.2 else none
    | none => []
  | none => []
theorem loopsOf_sub : ∀ {c c' : Code} {id : Nat} {p : Nat × Code}, (id, c') ∈ loopsOf c → p ∈ loopsOf c' → p ∈ loopsOf c := by
  intro c
  induction c with
  | seq a b iha ihb =>
    intro c' id p h h2
    simp only [loopsOf, List.mem_append, List.mem_cons, Prod.mk.injEq] at h ⊢
    rcases h with ⟨rfl, rfl⟩ | h | h
    · exact .inr (.inl h2)
    · exact .inr (.inl (iha h h2))
    · exact .inr (.inr (ihb h h2))
  | cond c a b iha ihb =>
    intro c' id p h h2
    simp only [loopsOf, List.mem_append] at h ⊢
    exact h.imp (fun h => iha h h2) (fun h => ihb h h2)
  | block id c ih => intro c' id p h h2; exact ih h h2
  | scope c ih => intro c' id p h h2; exact ih h h2
  | loop c ih =>
    intro c' id p h h2
    simp only [loopsOf, List.mem_cons, Prod.mk.injEq] at h
    rcases h with ⟨rfl, rfl⟩ | h
    · exact h2
    · simp only [loopsOf, List.mem_cons]
      exact .inr (ih h h2)
  | _ => intro c' id p h; simp [loopsOf] at h
theorem loopsAt_mem {P : Program} {f : FuncId} {id : Nat} {c0 : Code} (h : c0 ∈ loopsAt P f id) : ∃ fn c, P.funcs[f]? = some fn ∧ fn.body = some c ∧ (id, c0) ∈ loopsOf c := by
  unfold loopsAt at h
  split at h
  · rename_i fn hf
    split at h
    · rename_i c hb
      obtain ⟨⟨i, c'⟩, h1, h2⟩ := List.mem_filterMap.1 h
      split at h2
      · rename_i hi
        simp only [Option.some.injEq] at h2
        subst h2
        have := Nat.eq_of_beq_eq_true hi
        simp only at this
        subst this
        exact ⟨fn, c, hf, hb, h1⟩
      · cases h2
    · cases h
  · cases h
theorem Good.addLoop {cx : Cx} (h : Good cx) {f : FuncId} {id : Nat} {L : Loop} {c0 : Code} (h1 : loopsAt cx.P f id = [c0]) (hL : LoopOk cx.P L c0) : Good (cx.addLoop f id L) := by
  refine ⟨h.specs, fun g i L' hl fn c c' hf hb hc => ?_, h.pures, h.tabs⟩
  simp only [Cx.addLoop] at hl
  split at hl
  · rename_i hg
    simp only [Bool.and_eq_true] at hg
    have e1 := Nat.eq_of_beq_eq_true hg.1
    have e2 := Nat.eq_of_beq_eq_true hg.2
    subst e1 e2
    simp only [Option.some.injEq] at hl
    subst hl
    have hf' : cx.P.funcs[g]? = some fn := hf
    have : c' ∈ loopsAt cx.P g i := by
      unfold loopsAt
      rw [hf']
      simp only [hb]
      rw [List.mem_filterMap]
      exact ⟨(i, c'), hc, by simp⟩
    rw [h1] at this
    simp only [List.mem_singleton] at this
    subst this
    intro α I w T a H b k r hT hH hh
    exact hL hT hH hh
  · exact h.loops g i L' hl fn c c' hf hb hc
theorem Good.sub {cx : Cx} (h : Good cx) {f : FuncId} {id : Nat} {c0 : Code} (hm : c0 ∈ loopsAt cx.P f id) : ∀ i L', cx.loops f i = some L' → ∀ c', (i, c') ∈ loopsOf c0 → LoopOk cx.P L' c' := by
  obtain ⟨fn, c, hf, hb, hc⟩ := loopsAt_mem hm
  intro i L' hl c' hc'
  intro α I w T a H b k r hT hH hh
  exact h.loops f i L' hl fn c c' hf hb (loopsOf_sub hc hc') hT hH hh
def evLoop (cx : Cx) (fuel f d id : Nat) (L : Loop) (F : L.X → Option L.R) (x : L.X) : Option L.R := match loopsAt cx.P f id with
  | [.loop c] => evCode cx (evCall cx fuel (d + 1)) f d c (L.tin.T nam0 (L.into x)) (L.tin.H nam0 (L.into x) fun _ => none) (roundK L F)
  | _ => none
def isLoop : List Code → Bool
  | [.loop _] => true
  | _ => false
theorem Good.loop {cx : Cx} (h : Good cx) (fuel d : Nat) {f : FuncId} {id : Nat} {L : Loop} {step : (L.X → Option L.R) → L.X → Option L.R} (h1 : isLoop (loopsAt cx.P f id) = true) (heq : ∀ F x, evLoop cx fuel f d id L F x = step F x) (n : Nat) (hfn : ∀ x, L.fn x = it step n x) (hib : ∀ y, L.into (L.back y) = y) (hoi : ∀ o, L.out (L.inn o) = o)
    (hnam : L.tin.free nam0 (fun _ => none) = true) : Good (cx.addLoop f id L) := by
  obtain ⟨c0, hc0⟩ : ∃ c0, loopsAt cx.P f id = [.loop c0] := by
    unfold isLoop at h1
    split at h1
    · rename_i c hc
      exact ⟨c, hc⟩
    · cases h1
  have hr : RoundEq cx fuel f d L c0 step := fun F x => by
    have := heq F x
    unfold evLoop at this
    rw [hc0] at this
    exact this
  refine h.addLoop hc0 (loopOk h (fun i L' hl c' hc' => ?_) hr (fun x y hy => ⟨n, by rw [← hfn x]; exact hy⟩) hib hoi hnam)
  exact fun hT hH hh => h.sub (c0 := .loop c0) (by rw [hc0]; simp) i L' hl c' (List.mem_cons_of_mem _ hc') hT hH hh
def evJoin (cx : Cx) (fuel f d id : Nat) (L : Loop) (x : L.X) : Option L.R := match loopsAt cx.P f id with
  | [c] => evCode cx (evCall cx fuel (d + 1)) f d c (L.tin.T nam0 (L.into x)) (L.tin.H nam0 (L.into x) fun _ => none) (joinK L)
  | _ => none
theorem Good.join {cx : Cx} (h : Good cx) (fuel d : Nat) {f : FuncId} {id : Nat} {L : Loop} (h1 : (loopsAt cx.P f id).length = 1) (heq : ∀ x, evJoin cx fuel f d id L x = L.fn x) (hib : ∀ y, L.into (L.back y) = y) (hoi : ∀ o, L.out (L.inn o) = o)
    (hnam : L.tin.free nam0 (fun _ => none) = true) : Good (cx.addLoop f id L) := by
  obtain ⟨c0, hc0⟩ := List.length_eq_one_iff.1 h1
  refine h.addLoop hc0 (joinOk (fuel := fuel) (d := d) h (h.sub (by rw [hc0]; simp)) (fun x => ?_) hib hoi hnam)
  have := heq x
  unfold evJoin at this
  rw [hc0] at this
  exact this
theorem Good.fn {cx : Cx} (h : Good cx) (fuel d : Nat) {f : FuncId} {S : FS} (heq : FnEq cx fuel f d S) (hoi : ∀ o, S.out (S.inn o) = o) (hnam : S.tin.free nam0 (fun _ => none) = true) : Good (cx.bare.addSpec f S) :=
  h.bare.addSpec (specOk h heq hoi hnam)
end Go.Proofs.Dk

/- Functions that call themselves. -/
namespace Go.Proofs.Dk
open Go Go.RowKit
set_option linter.unusedVariables false
set_option linter.unusedSimpArgs false
@[reducible] def ofs (n : Nat) : Nat → List (Nat × IK) → List IK
  | i, [] => List.replicate (n - i) .any
  | i, e :: r => List.replicate (e.1 - i) .any ++ e.2 :: ofs n (e.1 + 1) r
def FS.with (S : FS) (W : S.tin.Ty → Option S.R) : FS := ⟨S.tin, S.tout, S.R, S.out, S.inn, W⟩
structure SpecS (P : Program) (f : FuncId) (S : FS) : Prop where
  ok : SpecOk P f S
theorem specOk_it {P : Program} {f : FuncId} {S : FS} {step : (S.tin.Ty → Option S.R) → S.tin.Ty → Option S.R} (hs : ∀ W, SpecS P f (S.with W) → SpecS P f (S.with (step W))) : ∀ n, SpecS P f (S.with (it step n))
  | 0 => ⟨by
    intro α I w H A args ρ k r x m hH hA hx hρ h
    cases h⟩
  | n + 1 => hs _ (specOk_it hs n)
theorem specOk_rec {P : Program} {f : FuncId} {S : FS} {step : (S.tin.Ty → Option S.R) → S.tin.Ty → Option S.R} (N : S.tin.Ty → Nat) (hs : ∀ W, SpecS P f (S.with W) → SpecS P f (S.with (step W))) (hfn : ∀ x, S.fn x = it step (N x) x) : SpecS P f S := by
  constructor
  intro α I w H A args ρ k r x m hH hA hx hρ h
  refine (specOk_it hs (N x)).ok (x := x) hH hA hx hρ (k := k) ?_
  rw [hfn x] at h
  exact h
theorem Good.fnRec {cx : Cx} (h : Good cx) {f : FuncId} {S : FS} {step : (S.tin.Ty → Option S.R) → S.tin.Ty → Option S.R} (N : S.tin.Ty → Nat) (cW : (S.tin.Ty → Option S.R) → Cx) (hc : ∀ W, Good (cx.bare.addSpec f (S.with W)) → Good (cW W)) (hP : ∀ W, (cW W).P = cx.P) (fuel d : Nat) (heq : ∀ W, FnEq (cW W) fuel f d (S.with (step W))) (hoi : ∀ o, S.out (S.inn o) = o) (hnam : S.tin.free nam0 (fun _ => none) = true) (hfn : ∀ x, S.fn x = it step (N x) x) : Good (cx.bare.addSpec f S) := by
  have hs : ∀ W, SpecS cx.P f (S.with W) → SpecS cx.P f (S.with (step W)) := fun W hW => by
    have hg : Good (cW W) := hc W (h.bare.addSpec fun hH hA hx hρ hk => hW.ok hH hA hx hρ hk)
    have h1 : SpecS (cW W).P f (S.with (step W)) := ⟨fun hH hA hx hρ hk => specOk (S := S.with (step W)) hg (heq W) hoi hnam hH hA hx hρ hk⟩
    rw [hP W] at h1
    exact h1
  exact h.bare.addSpec fun hH hA hx hρ hk => (specOk_rec N hs hfn).ok hH hA hx hρ hk
theorem prT_len {H : Heap} : ∀ {ks : List IK} {T : List DV} {m : Met} {p : Tup ks × Met}, prT H ks T m = some p → T.length = ks.length
  | [], [], m, p, h => rfl
  | [], d :: T, m, p, h => by cases h
  | .any :: r, T, m, p, h => by
    simp only [prT] at h
    split at h
    · simp only [List.length_cons]; rw [prT_len h]
    · cases h
  | .val s :: r, T, m, p, h => by
    simp only [prT] at h
    repeat' split at h
    all_goals first | (cases h; done) | (rename_i hz; simp only [List.length_cons]; rw [prT_len hz])
  | .agf s F :: r, T, m, p, h => by
    simp only [prT] at h
    repeat' split at h
    all_goals first | (cases h; done) | (rename_i hz; simp only [List.length_cons]; rw [prT_len hz])
  | .row E s :: r, T, m, p, h => by
    simp only [prT] at h
    repeat' split at h
    all_goals first | (cases h; done) | (rename_i hz; simp only [List.length_cons]; rw [prT_len hz])
  | .obj i :: r, T, m, p, h => by
    simp only [prT] at h
    repeat' split at h
    all_goals first | (cases h; done) | (simp only [List.length_cons]; rw [prT_len h])
  | .clo F is :: r, T, m, p, h => by
    simp only [prT] at h
    repeat' split at h
    all_goals first | (cases h; done) | (simp only [List.length_cons]; rw [prT_len h])
  | .tab ks vs :: r, T, m, p, h => by cases h
end Go.Proofs.Dk

/- What stands in memory when a law's call begins; a law's call. -/
namespace Go.Proofs.Dk
open Go Go.RowKit Go.ChangeShapes Go.WideShapes
set_option linter.unusedVariables false
set_option linter.unusedSimpArgs false
def Sh.Ok : (s : Sh) → s.T → Prop
  | .int k, n => (Lit.int k n).wf = true
  | .bool, _ => True
  | .str, s => s.size ≤ maxLen
  | .pair a b, x => a.Ok x.1 ∧ b.Ok x.2
  | .sl e, l => l.length ≤ maxLen ∧ ∀ x ∈ l, e.Ok x
  | .arr n e, l => l.length = n ∧ ∀ x ∈ l, e.Ok x
def openF (g : TypeId → Sh → Bool) : List Field → Nat → Sh → Bool
  | [], _, _ => false
  | [f], o, s => f.offset == o && g f.type s
  | f :: f' :: r, o, s => match s with
    | .pair a b => f.offset == o && g f.type a && openF g (f' :: r) (o + a.sz) b
    | _ => false
def openB (P : Program) : Nat → TypeId → Sh → Bool
  | 0, _, _ => false
  | n + 1, t, s => P.cellsOf t == s.sz && match P.underlying t with
    | some (.int k) => (match s with | .int k' => decide (k = k') | _ => false)
    | some .bool => (match s with | .bool => true | _ => false)
    | some .string => (match s with | .str => true | _ => false)
    | some (.slice e) => (match s with | .sl s => decide (0 < s.sz) && openB P n e s | _ => false)
    | some (.array m e) => (match s with | .arr m' s => decide (m = m') && decide (0 < s.sz) && openB P n e s | _ => false)
    | some (.struct fs) => openF (openB P n) fs.toList 0 s
    | _ => false
section
variable {P : Program}
def Opened (P : Program) (t : TypeId) (s : Sh) : Prop := P.cellsOf t = s.sz ∧ ∀ {H : Type} (enc : TypeId × Value → H) (w : World) (fuel : Nat) (cs : List Value) (x : DataW H × List MemPlace), DataW.trod enc P w 0 (fun _ => true) true fuel t cs = some x → ∃ a, s.K (fun b => b < w.heap.size) w a cs ∧ s.Ok a
theorem cells?_at {w : World} {a : Addr} {n : Nat} {cs : List Value} (h : w.cells? 0 a n = some cs) : cs.length = n ∧ ∀ i u, cs[i]? = some u → w.cell? (a.add i) = some u := by
  have hs := World.cells?_some h
  refine ⟨hs.2.1, fun i u hu => ?_⟩
  have hi : i < n := by rw [← hs.2.1]; exact (List.getElem?_eq_some_iff.1 hu).1
  rw [← hu]
  exact hs.2.2 i hi
theorem cell_in {w : World} {a : Addr} {u : Value} (h : w.cell? a = some u) : a.spot = none ∧ a.block < w.heap.size := by
  unfold World.cell? at h
  split at h
  · rename_i c e r hb
    split at h
    · cases h
    · rename_i hs
      refine ⟨by simpa using hs, (Array.getElem?_eq_some_iff.1 hb).1⟩
  · cases h
theorem openF_ok {g : TypeId → Sh → Bool} (hg : ∀ t s, g t s = true → Opened P t s) : ∀ (fs : List Field) (o : Nat) (s : Sh), openF g fs o s = true → ∀ {H : Type} (enc : TypeId × Value → H) (w : World) (n : Nat) (cs : List Value), o + s.sz ≤ cs.length → (∀ (i : Nat) (f : Field), fs[i]? = some f → ∃ x, DataW.trod enc P w 0 (fun _ => true) true n f.type ((cs.drop f.offset).take (P.cellsOf f.type)) = some x) → ∃ a, s.K (fun b => b < w.heap.size) w a ((cs.drop o).take s.sz) ∧ s.Ok a
  | [], o, s, h => by simp [openF] at h
  | [f], o, s, h => by
    intro enc w n cs hl hx
    simp only [openF, Bool.and_eq_true, beq_iff_eq] at h
    obtain ⟨ho, hs⟩ := h
    obtain ⟨hc, hop⟩ := hg _ _ hs
    obtain ⟨x, hx⟩ := hx 0 f rfl
    rw [ho, hc] at hx
    exact hop enc w n _ _ hx
  | f :: f' :: r, o, s, h => by
    intro enc w n cs hl hx
    simp only [openF] at h
    split at h
    · rename_i a b
      simp only [Bool.and_eq_true, beq_iff_eq] at h
      obtain ⟨⟨ho, hs⟩, hr⟩ := h
      obtain ⟨hc, hop⟩ := hg _ _ hs
      have hl' : o + (a.sz + b.sz) ≤ cs.length := hl
      obtain ⟨x, hx0⟩ := hx 0 f rfl
      rw [ho, hc] at hx0
      obtain ⟨y, hy, hoy⟩ := hop enc w n _ _ hx0
      obtain ⟨z, hz, hoz⟩ := openF_ok hg (f' :: r) (o + a.sz) b hr enc w n cs (by omega) (fun i g hg => hx (i + 1) g hg)
      refine ⟨(y, z), ⟨_, _, ?_, hy, hz⟩, hoy, hoz⟩
      show (cs.drop o).take (a.sz + b.sz) = _
      rw [List.take_add, List.drop_drop]
    · cases h
theorem openB_ok : ∀ (n : Nat) (t : TypeId) (s : Sh), openB P n t s = true → Opened P t s
  | 0, t, s, h => by simp [openB] at h
  | n + 1, t, s, h => by
    simp only [openB, Bool.and_eq_true, beq_iff_eq] at h
    obtain ⟨hc, h⟩ := h
    refine ⟨hc, ?_⟩
    intro H enc w fuel cs x hx
    split at h
    · rename_i k ht
      split at h
      · rename_i k'
        simp only [decide_eq_true_eq] at h
        subst h
        obtain ⟨m, rfl, _, hw⟩ := DataW.trod_int ht hx
        exact ⟨m, rfl, hw⟩
      · cases h
    · rename_i ht
      split at h
      · obtain ⟨b, rfl, _⟩ := DataW.trod_bool ht hx
        exact ⟨b, rfl, trivial⟩
      · cases h
    · rename_i ht
      split at h
      · obtain ⟨b, rfl, _, hw⟩ := DataW.trod_string ht hx
        exact ⟨b, rfl, hw⟩
      · cases h
    · rename_i e ht
      split at h
      · rename_i s
        simp only [Bool.and_eq_true, decide_eq_true_eq] at h
        obtain ⟨hz, h⟩ := h
        obtain ⟨hce, hop⟩ := openB_ok n e s h
        rcases Go.Deep.open_slice ht hx with ⟨rfl, _⟩ | ⟨a, len, cap, m, n', D, Pl, rfl, _, hl, hm, hmm, _, hx2⟩
        · exact ⟨[], ⟨none, 0, rfl, Nat.le_refl _, fun hn => absurd rfl hn⟩, by simp [maxLen], fun x hx => by cases hx⟩
        simp only [if_true] at hmm
        subst hmm
        have hall : ∀ i, i < len → ∃ x : s.T, ∃ c, c.length = s.sz ∧ s.K (fun b => b < w.heap.size) w x c ∧ (∀ j u, c[j]? = some u → w.cell? (a.add (i * s.sz + j)) = some u) ∧ s.Ok x := by
          intro i hi
          obtain ⟨cs', h1, h2⟩ := hx2 i (by omega)
          rw [hce] at h1
          obtain ⟨h3, h4⟩ := cells?_at h1
          obtain ⟨x, hk, ho⟩ := hop enc w n' cs' _ h2
          exact ⟨x, cs', h3, hk, fun j u hj => by rw [← Go.Deep.add_add]; exact h4 j u hj, ho⟩
        have : Inhabited s.T := ⟨s.dflt⟩
        obtain ⟨X, hX⟩ := Go.Deep.choose_lt hall
        refine ⟨(List.range len).map X, ⟨some a, m, by simp, by simpa using hl, fun hne => ?_⟩, by simpa using Nat.le_trans hl hm, fun x hx => ?_⟩
        · have hlen : 0 < len := by
            rcases Nat.eq_zero_or_pos len with h0 | h0
            · rw [h0] at hne; simp at hne
            · exact h0
          obtain ⟨c, h1, h2, h3, _⟩ := hX 0 hlen
          have hc0 : c[0]? = some (c[0]'(by omega)) := List.getElem?_eq_getElem _
          have h5 := h3 0 _ hc0
          have ha0 : a.add (0 * s.sz + 0) = a := by simp [Addr.add]
          rw [ha0] at h5
          obtain ⟨g1, g2⟩ := cell_in h5
          refine ⟨a, rfl, g1, g2, fun i p hi => ?_⟩
          have hi2 : i < len := by
            have := (List.getElem?_eq_some_iff.1 hi).1
            simpa using this
          obtain ⟨c, h1, h2, h3, _⟩ := hX i hi2
          have : X i = p := by simpa [List.getElem?_map, List.getElem?_range hi2] using hi
          subst this
          exact ⟨c, h1, h2, h3⟩
        · obtain ⟨i, hi, rfl⟩ := List.mem_map.1 hx
          obtain ⟨_, _, _, _, ho⟩ := hX i (List.mem_range.1 hi)
          exact ho
      · cases h
    · rename_i m e ht
      split at h
      · rename_i m' s
        simp only [Bool.and_eq_true, decide_eq_true_eq] at h
        obtain ⟨⟨rfl, hz⟩, h⟩ := h
        obtain ⟨hce, hop⟩ := openB_ok n e s h
        obtain ⟨xs, k, _, rfl, hl, hxl, hx2⟩ := DataW.trod_array ht hx
        have hall : ∀ i, i < m → ∃ x : s.T, s.K (fun b => b < w.heap.size) w x ((cs.drop (i * s.sz)).take s.sz) ∧ s.Ok x := by
          intro i hi
          have h1 := hx2 i hi
          rw [hce, List.getElem?_eq_getElem (by omega)] at h1
          exact hop enc w k _ _ h1
        have : Inhabited s.T := ⟨s.dflt⟩
        obtain ⟨X, hX⟩ := Go.Deep.choose_lt hall
        refine ⟨(List.range m).map X, ⟨by simp, by rw [hl, hc]; rfl, fun i p hi => ?_⟩, by simp, fun x hx => ?_⟩
        · have hi2 : i < m := by
            have := (List.getElem?_eq_some_iff.1 hi).1
            simpa using this
          have : X i = p := by simpa [List.getElem?_map, List.getElem?_range hi2] using hi
          subst this
          exact (hX i hi2).1
        · obtain ⟨i, hi, rfl⟩ := List.mem_map.1 hx
          exact (hX i (List.mem_range.1 hi)).2
      · cases h
    · rename_i fs ht
      obtain ⟨xs, k, _, rfl, hl, hxl, hx2⟩ := DataW.trod_struct ht hx
      obtain ⟨a, ha, ho⟩ := openF_ok (fun t s h => openB_ok n t s h) fs.toList 0 s h enc w k cs (by omega) (fun i f hi => by
        have h1 := hx2 i f (by simpa using hi)
        have hlt : i < xs.length := by
          have := (List.getElem?_eq_some_iff.1 hi).1
          rw [hxl]
          simpa using this
        rw [List.getElem?_eq_getElem hlt] at h1
        exact ⟨_, h1⟩)
      rw [List.drop_zero, List.take_of_length_le (by omega)] at ha
      exact ⟨a, ha, ho⟩
    · cases h
def I0 (w : World) : In := ⟨fun _ => none, fun b => b < w.heap.size⟩
theorem hr0 (w : World) : HR (I0 w) w fun _ => none := ⟨fun n cs h => (by cases h), fun n E s xs h => (by cases h), fun n T es h => (by cases h), fun n h => rfl, fun n e b h => (by cases h), fun n m e e' b h => (by cases h), fun b h => h⟩
theorem opened {t : TypeId} {s : Sh} (n : Nat) (ho : openB P n t s = true) (hst : (match P.underlying t with | some (.struct _) => s.multi | _ => true) = true) {H : Type} {enc : TypeId × Value → H} {w : World} {base : Nat} {v : Value} {x : DataW H} {ps : List MemPlace} (hv : Value.okWide P w .any base t v) (h : DataW.Trod enc P w 0 (fun _ => true) true t v x ps) : ∃ a, VR (I0 w) w (s.val a) v ∧ s.Ok a := by
  obtain ⟨hc, hop⟩ := openB_ok n t s ho
  obtain ⟨fuel, hf⟩ := h
  obtain ⟨a, hk, hok⟩ := hop enc w fuel _ _ hf
  refine ⟨a, ?_, hok⟩
  have one : ∀ {s : Sh} {a : s.T}, s.multi = false → s.K (fun b => b < w.heap.size) w a v.cells.toList → v.cells.toList = [v] → VR (I0 w) w (s.val a) v := by
    intro s a hm hk hc
    rw [hc] at hk
    cases s with
    | int k => cases hk; exact .sc _ rfl
    | bool => cases hk; exact .sc _ rfl
    | str => cases hk; exact .sc _ rfl
    | sl e => exact .vs e a v hk
    | pair a b => cases hm
    | arr n e => cases hm
  have many : s.multi = true → (∃ cs, v = .agg cs) → VR (I0 w) w (s.val a) v := by
    rintro hm ⟨cs, rfl⟩
    unfold Sh.val
    rw [if_pos hm]
    exact .agg _ _ (Sh.enc_ok (I := I0 w) hk)
  cases n with
  | zero => simp [openB] at ho
  | succ n =>
  simp only [openB, Bool.and_eq_true, beq_iff_eq] at ho
  obtain ⟨_, ho⟩ := ho
  have scal : (∀ cs, v ≠ .agg cs) → v.cells.toList = [v] := fun hn => by
    cases v <;> first | rfl | exact absurd rfl (hn _)
  split at ho
  · rename_i k ht
    split at ho
    · refine one rfl hk (scal fun cs => ?_)
      rintro rfl
      simp [Value.okWide, ht, Cell.okWide, Cell.ok] at hv
    · cases ho
  · rename_i ht
    split at ho
    · refine one rfl hk (scal fun cs => ?_)
      rintro rfl
      simp [Value.okWide, ht, Cell.okWide, Cell.ok] at hv
    · cases ho
  · rename_i ht
    split at ho
    · refine one rfl hk (scal fun cs => ?_)
      rintro rfl
      simp [Value.okWide, ht, Cell.okWide, Cell.ok] at hv
    · cases ho
  · rename_i e ht
    split at ho
    · refine one rfl hk (scal fun cs => ?_)
      rintro rfl
      obtain ⟨_, _, _, h⟩ := okWide_slice ht hv
      cases h
    · cases ho
  · rename_i m e ht
    split at ho
    · refine many rfl ?_
      simp only [Value.okWide, ht] at hv
      obtain ⟨cs, h1, _⟩ := hv
      exact ⟨cs, h1⟩
    · cases ho
  · rename_i fs ht
    rw [ht] at hst
    obtain ⟨cs, h1, _⟩ := okWide_struct ht hv
    exact many hst ⟨cs, h1⟩
  · cases ho
theorem law_calls {f : FuncId} {S : FS} (hS : SpecOk P f S) {w : World} {A : List DV} {args : List Value} {x : S.tin.Ty} {y : S.R} (hA : LR (I0 w) w A args) (hx : S.tin.pr ⟨[], []⟩ A (fun _ => none) = some (x, ⟨[], []⟩)) (hfn : S.fn x = some y) (hfree : ∀ ρ H, S.tout.free ρ H = true) (hT : ∀ ρ, tupD (S.tout.T ρ (S.out y)) = .sc (.bool true)) : Calls P f args.toArray w fun e w' => e = .returned (.bool true) ∧ Below w.heap.size w w' := by
  refine Calls.mono (hS (ρ := nam0) (k := fun v H u => some v) (r := .sc (.bool true)) (hr0 w) hA hx (fun i n h => by cases h) ?_) ?_
  · rw [hfn, Option.bind_some]
    simp only [hfree, if_true, hT]
  · rintro e w' he
    cases e with
    | returned z =>
      obtain ⟨I', v, H', u, h1, h2, h3, h4, h5⟩ := he
      simp only [Option.some.injEq] at h1
      subst h1
      refine ⟨by rw [h4.sc_eq], h2.os, h2.tape, h2.output, h2.size, fun b hb => h2.same b hb fun n e hn => by cases hn⟩
    | _ => exact he.elim
end
end Go.Proofs.Dk

/- Functions that make tables of functions: from their equations. -/
namespace Go.Proofs.Dk
open Go Go.RowKit
set_option linter.unusedVariables false
set_option linter.unusedSimpArgs false
def pickF : List (List Int) → List FuncId → Int → Option FuncId
  | l :: ks, d :: vs, n => if (l.any fun x => n == x) = true then some d else pickF ks vs n
  | _, _, _ => none
theorem pick_map {f : FuncId → DV} : ∀ (ks : List (List Int)) (Fs : List FuncId) (n : Int), pickD ks (Fs.map f) n = (pickF ks Fs n).map f
  | [], Fs, n => by cases Fs <;> rfl
  | l :: ks, [], n => rfl
  | l :: ks, F :: Fs, n => by
    simp only [List.map_cons, pickD, pickF]
    split
    · rfl
    · exact pick_map ks Fs n
theorem tabOf_new {I : In} {w : World} {H : Heap} {d : DV} {v : Value} {ks : List (List Int)} {vs : List DV} (hH : HR I w H) (hv : VR I w d v) (h : tabOf H d = some (ks, vs)) : ∃ b es clock val, v = .map (some b) ∧ (I.R b ∨ ∃ n, I.ι n = some (.obj b)) ∧ w.heap[b]? = some (.map es clock) ∧ TabE ks vs val es.toList ∧ ∀ m d, pickD ks vs m = some d → VR I w d (val m) := by
  unfold tabOf at h
  split at h
  · simp only [Option.some.injEq, Prod.mk.injEq] at h
    obtain ⟨rfl, rfl⟩ := h
    cases hv with | tab _ _ val b es cl hR hb hE hL => exact ⟨b, es, cl, val, rfl, .inl hR, hb, hE, hL⟩
  · rename_i n
    split at h
    · rename_i ks' vs' hn
      simp only [Option.some.injEq, Prod.mk.injEq] at h
      obtain ⟨rfl, rfl⟩ := h
      cases hv with | mh _ b hi =>
      obtain ⟨b', es, cl, val, k1, k2, k3, k4⟩ := hH.mp n _ _ hn
      rw [hi] at k1
      simp only [Option.some.injEq, Ent.obj.injEq] at k1
      subst k1
      exact ⟨b, es, cl, val, rfl, .inr ⟨n, hi⟩, k2, k3, k4⟩
    · cases h
  · cases h
theorem LR.scs {I : In} {w : World} : ∀ {vs us : List Value}, LR I w (vs.map DV.sc) us → us = vs
  | [], us, h => by cases h; rfl
  | v :: vs, us, h => by
    cases h with | cons _ _ u us' hd hr =>
    rw [hd.sc_eq, LR.scs hr]
theorem LR.mkSc {I : In} {w : World} : ∀ {vs : List Value}, (∀ v ∈ vs, v.oneCell' = true) → LR I w (vs.map DV.sc) vs
  | [], _ => .nil
  | v :: vs, h => .cons _ _ _ _ (.sc v (h v (List.mem_cons_self ..))) (LR.mkSc fun u hu => h u (List.mem_cons_of_mem _ hu))
theorem LR.ptrs {I : In} {w : World} : ∀ {A : List DV} {vs : List Value}, LR I w A vs → A.all isPtr = true → ∀ v ∈ vs, v.oneCell' = true
  | _, _, .nil, _, v, hv => by cases hv
  | _, _, .cons d r u vs hd hr, h, v, hv => by
    simp only [List.all_cons, Bool.and_eq_true] at h
    rcases List.mem_cons.1 hv with rfl | hv
    · cases hd <;> simp [isPtr] at h
      rfl
    · exact LR.ptrs hr h.2 v hv
theorem tabOk {cx : Cx} (hg : Good cx) {g : FuncId} {ar : Nat} {ks : List (List Int)} {Fs : List FuncId} (fuel : Nat) (heq : ∀ vs : List Value, vs.length = ar → bodyK cx (evCall cx fuel 1) g 0 (vs.map DV.sc) (fun _ => none) (fun v H => tabOf H v) = some (ks, Fs.map fun F => .fn (.func F) (vs.map DV.sc) [])) : TabOk cx.P g (ar, ks, Fs) := by
  intro I w H A args hH hA hl hp
  have hone := LR.ptrs hA hp
  have hlen : args.length = ar := by rw [← hA.length]; exact hl
  have hH1 : HR ⟨fun _ => none, fun _ => False⟩ w fun _ => none := ⟨fun n cs h => (by cases h), fun n E s xs h => (by cases h), fun n ks vs h => (by cases h), fun n h => rfl, fun n e b h => (by cases h), fun n m e e' b h => (by cases h), fun b h => h.elim⟩
  have hA1 : LR ⟨fun _ => none, fun _ => False⟩ w (args.map DV.sc) args := LR.mkSc hone
  refine Calls.mono (bodyK_ok hg (evCall_ok hg fuel 1) hH1 (Nat.le_of_eq hA1.length) (fun i => hA1.getD i) (heq args hlen)) ?_
  rintro e w' he
  cases e with
  | returned z =>
    obtain ⟨I', v, H', h1, h2, h3, h4⟩ := he
    obtain ⟨b, es, cl, val, rfl, hnew, hb, hE, hL⟩ := tabOf_new h3 h4 h1
    have hb0 : w.heap.size ≤ b := by
      rcases hnew with hR | ⟨n, hn⟩
      · rcases h2.newR b hR with h | ⟨m, e', h, _⟩ | h
        · exact h.elim
        · cases h
        · exact h
      · rcases h2.own n _ b hn rfl with ⟨m, e', h, _⟩ | h
        · cases h
        · exact h
    have hw : ∀ c, c < w.heap.size → w'.heap[c]? = w.heap[c]? := fun c hc => h2.same c hc fun n e h => by cases h
    have hbw : b < w'.heap.size := (Array.getElem?_eq_some_iff.1 hb).1
    obtain ⟨q1, q2⟩ := hH.grow (I' := ⟨I.ι, fun c => I.R c ∨ (w.heap.size ≤ c ∧ c < w'.heap.size)⟩) rfl (fun c => Iff.rfl) hw h2.size
    refine ⟨⟨I.ι, fun c => I.R c ∨ (w.heap.size ≤ c ∧ c < w'.heap.size)⟩, ⟨fun n c h => h, fun c h => .inl h, fun c h _ => hw c h, fun n e c h k => .inl ⟨n, e, h, k⟩, fun c h => ?_, h2.size, h2.os, h2.tape, h2.output⟩, ⟨fun n sz v h => h⟩, q1, ?_⟩
    · rcases h with h | h
      · exact .inl h
      · exact .inr (.inr h.1)
    · refine .tab ks _ val b es cl (.inr ⟨hb0, hbw⟩) hb ⟨hE.keys, fun e he n hn => ⟨(hE.here e he n hn).1, ?_⟩, fun n hn => ?_⟩ fun n d hd => ?_
      · have := (hE.here e he n hn).2
        rw [pick_map, Option.isSome_map] at this ⊢
        exact this
      · refine hE.all n ?_
        rw [pick_map, Option.isSome_map] at hn ⊢
        exact hn
      · rw [pick_map] at hd
        obtain ⟨F, hF, rfl⟩ := Option.map_eq_some_iff.1 hd
        have := hL n (.fn (.func F) (args.map DV.sc) []) (by rw [pick_map, hF]; rfl)
        generalize val n = u at this
        cases this with | fn _ _ _ a' b' k1 k2 =>
        have e1 := LR.scs k1
        refine .fn _ _ _ _ _ ?_ ?_
        · rw [e1]; exact LR.keep q2 hA
        · cases hbb : b'.toList with
          | nil => exact .nil
          | cons c r => rw [hbb] at k2; cases k2
  | _ => exact he.elim
theorem tabOk1 {cx : Cx} (hg : Good cx) {g : FuncId} {ks : List (List Int)} {Fs : List FuncId} (fuel : Nat) (heq : ∀ p : Value, bodyK cx (evCall cx fuel 1) g 0 [.sc p] (fun _ => none) (fun v H => tabOf H v) = some (ks, Fs.map fun F => .fn (.func F) [.sc p] [])) : TabOk cx.P g (1, ks, Fs) :=
  fun hH hA hl hp => tabOk hg fuel (fun vs h => by
    match vs, h with
    | [p], _ => exact heq p) hH hA hl hp
theorem tabOk0 {cx : Cx} (hg : Good cx) {g : FuncId} {ks : List (List Int)} {Fs : List FuncId} (fuel : Nat) (heq : bodyK cx (evCall cx fuel 1) g 0 [] (fun _ => none) (fun v H => tabOf H v) = some (ks, Fs.map fun F => .fn (.func F) [] [])) : TabOk cx.P g (0, ks, Fs) :=
  fun hH hA hl hp => tabOk hg fuel (fun vs h => by
    match vs, h with
    | [], _ => exact heq) hH hA hl hp
def Cx.addTab (cx : Cx) (f : FuncId) (t : Nat × List (List Int) × List FuncId) : Cx := ⟨cx.P, cx.loops, cx.specs, fun g => if Nat.beq g f then some t else cx.tabs g⟩
theorem Good.addTab {cx : Cx} (h : Good cx) {f : FuncId} {t : Nat × List (List Int) × List FuncId} (ht : TabOk cx.P f t) : Good (cx.addTab f t) := by
  refine ⟨h.specs, h.loops, h.pures, fun g t' hg => ?_⟩
  simp only [Cx.addTab] at hg
  split at hg
  · rename_i hgf
    have := Nat.eq_of_beq_eq_true hgf
    subst this
    simp only [Option.some.injEq] at hg
    subst hg
    intro I w H A args hH hA hl hp
    exact ht hH hA hl hp
  · intro I w H A args hH hA hl hp
    exact h.tabs g t' hg hH hA hl hp
end Go.Proofs.Dk

/- A row that a law is given is no longer than it can be. -/
namespace Go.Proofs.Dk
open Go Go.RowKit
set_option linter.unusedVariables false
theorem Good.known {cx : Nat → Cx} (hg : ∀ n, Good (cx n)) {f : FuncId} {S : Nat → FS} (N : Nat) (h : SpecOk (cx N).P f (S N)) (hz : ∀ n, n ≠ N → ∀ x, (S n).fn x = none) (n : Nat) : Good ((cx n).bare.addSpec f (S n)) := by
  refine (hg n).bare.addSpec fun hH hA hx hρ hk => ?_
  by_cases e : n = N
  · subst e; exact h hH hA hx hρ hk
  · rw [hz n e] at hk
    cases hk
theorem beq_none {α : Type} {n N : Nat} {v : α} (h : n ≠ N) : (if Nat.beq n N = true then some v else none) = none := if_neg fun e => h (Nat.eq_of_beq_eq_true e)
end Go.Proofs.Dk

/- A region that draws its order, by an invariant over the set of the operations that are done. -/
namespace Go.Proofs.YtmacohlmfghffaaGreatH
open Go
def cnt (S : Nat → Bool) : Nat → Nat
  | 0 => 0
  | n + 1 => cnt S n + (if S n then 0 else 1)
def don (S : Nat → Bool) (i : Nat) : Nat → Bool := fun j => if j = i then true else S j
theorem cnt_le (S : Nat → Bool) (i : Nat) : ∀ n, n ≤ i → cnt (don S i) n = cnt S n
  | 0, _ => rfl
  | n + 1, h => by
    simp only [cnt]
    rw [cnt_le S i n (by omega)]
    simp [don, show n ≠ i by omega]
theorem cnt_don (S : Nat → Bool) (i : Nat) (hi : S i = false) : ∀ n, i < n → cnt S n = cnt (don S i) n + 1
  | 0, h => by omega
  | n + 1, h => by
    simp only [cnt]
    by_cases e : n = i
    · subst e
      rw [cnt_le S n n (Nat.le_refl _)]
      simp [don, hi]
    · rw [cnt_don S i hi n (by omega)]
      simp [don, e]
      omega
theorem cnt_zero (S : Nat → Bool) : ∀ n, cnt S n = 0 → ∀ i, i < n → S i = true
  | 0, _, i, hi => by omega
  | n + 1, h, i, hi => by
    simp only [cnt] at h
    by_cases e : i = n
    · subst e
      cases hs : S i with
      | true => rfl
      | false => rw [hs] at h; simp at h
    · exact cnt_zero S n (by omega) i (by omega)
section
variable {P : Program} {ops : Array Oper} {Q : Exit → Act → World → Prop}
theorem mem_ready' {listed : Array Bool} (hs : listed.size = ops.size) {i : Nat} : i ∈ Region.ready .any ops listed ↔ listed.getD i false = false ∧ ∃ o, ops[i]? = some o ∧ ∀ e ∈ o.after, Region.binds .any e = true → listed.getD e.on false = true := by
  rw [mem_ready]
  constructor
  · rintro ⟨h, o, ho, ha⟩
    have hlt : i < listed.size := by rw [hs]; exact (Array.getElem?_eq_some_iff.1 ho).1
    exact ⟨by simpa [hlt] using h, o, ho, ha⟩
  · rintro ⟨h, o, ho, ha⟩
    have hlt : i < listed.size := by rw [hs]; exact (Array.getElem?_eq_some_iff.1 ho).1
    exact ⟨by simpa [hlt] using h, o, ho, ha⟩
theorem all_done (hback : ∀ (i : Nat) (o : Oper), ops[i]? = some o → ∀ e ∈ o.after, e.on < i) (listed : Array Bool) (hs : listed.size = ops.size) (h : Region.ready .any ops listed = []) : ∀ i, i < ops.size → listed.getD i false = true := by
  intro i
  induction i using Nat.strongRecOn with
  | _ i ih =>
    intro hi
    cases hl : listed.getD i false with
    | true => rfl
    | false =>
      exfalso
      have hm : i ∈ Region.ready .any ops listed := by
        rw [mem_ready' hs]
        refine ⟨hl, ops[i], by simp [hi], fun e he _ => ?_⟩
        have hlt := hback i ops[i] (by simp [hi]) e he
        exact ih e.on hlt (by omega)
      rw [h] at hm
      cases hm
theorem wpAny_inv (I : (Nat → Bool) → Act → World → Prop) (hback : ∀ (i : Nat) (o : Oper), ops[i]? = some o → ∀ e ∈ o.after, e.on < i)
    (hstep : ∀ S i o a w, ops[i]? = some o → S i = false → (∀ e ∈ o.after, Region.binds .any e = true → S e.on = true) → I S a w → wpOp P ops Q i (I (don S i)) a w)
    (hend : ∀ S a w, (∀ i, i < ops.size → S i = true) → I S a w → Q .normal a w) :
    ∀ (fuel : Nat) (listed : Array Bool) (a : Act) (w : World), listed.size = ops.size → cnt (fun i => listed.getD i false) ops.size ≤ fuel → I (fun i => listed.getD i false) a w → wpAny P .any ops Q fuel listed a w
  | 0, listed, a, w, hs, hc, hI => by
    have hall := cnt_zero _ _ (Nat.le_zero.1 hc)
    refine ⟨?_, hend _ a w hall hI⟩
    cases hr : Region.ready .any ops listed with
    | nil => rfl
    | cons i rs =>
      have hm : i ∈ Region.ready .any ops listed := by rw [hr]; exact List.mem_cons_self
      rw [mem_ready' hs] at hm
      obtain ⟨h1, o, ho, _⟩ := hm
      have := hall i (Array.getElem?_eq_some_iff.1 ho).1
      rw [this] at h1
      cases h1
  | fuel + 1, listed, a, w, hs, hc, hI => by
    refine ⟨fun hr => hend _ a w (all_done hback listed hs hr) hI, fun i hm => ?_⟩
    rw [mem_ready' hs] at hm
    obtain ⟨h1, o, ho, ha⟩ := hm
    have hlt : i < ops.size := (Array.getElem?_eq_some_iff.1 ho).1
    have hS : (fun j => (listed.setIfInBounds i true).getD j false) = don (fun j => listed.getD j false) i := by
      funext j
      simp only [don]
      by_cases e : j = i
      · subst e
        simp [hs, hlt]
      · rw [if_neg e, getD_set_ne false (Ne.symm e)]
    refine wpOp_mono (fun a' w' h => ?_) (hstep _ i o a w ho h1 ha hI)
    refine wpAny_inv I hback hstep hend fuel _ a' w' (by simp [hs]) ?_ ?_
    · rw [hS]
      have := cnt_don (fun j => listed.getD j false) i h1 ops.size hlt
      omega
    · rw [hS]
      exact h
theorem wp_region_inv {id : Nat} {a : Act} {w : World} (hm : P.follows .mixedOrders = true) (I : (Nat → Bool) → Act → World → Prop) (hback : ∀ (i : Nat) (o : Oper), ops[i]? = some o → ∀ e ∈ o.after, e.on < i)
    (hstep : ∀ S i o a w, ops[i]? = some o → S i = false → (∀ e ∈ o.after, Region.binds .any e = true → S e.on = true) → I S a w → wpOp P ops Q i (I (don S i)) a w)
    (hend : ∀ S a w, (∀ i, i < ops.size → S i = true) → I S a w → Q .normal a w) (h0 : I (fun _ => false) a w.drew) : (Code.region id ops true).wp P Q a w := by
  refine wp_region_any hm (wpAny_inv I hback hstep hend ops.size _ a _ (by simp) ?_ ?_)
  · have : ∀ (S : Nat → Bool) n, cnt S n ≤ n := by
      intro S n
      induction n with
      | zero => exact Nat.le_refl _
      | succ n ih => simp only [cnt]; split <;> omega
    exact this _ _
  · have e : (fun i => (Array.replicate ops.size false).getD i false) = fun _ => false := by
      funext i
      by_cases hi : i < ops.size <;> simp [hi]
    rw [e]
    exact h0
end
def backB (ops : Array Oper) : Bool := (List.range ops.size).all fun i => match ops[i]? with | some o => o.after.all (fun e => decide (e.on < i)) | none => true
theorem back_of {ops : Array Oper} (h : backB ops = true) : ∀ (i : Nat) (o : Oper), ops[i]? = some o → ∀ e ∈ o.after, e.on < i := by
  intro i o ho e he
  have hlt : i < ops.size := (Array.getElem?_eq_some_iff.1 ho).1
  have h1 := List.all_eq_true.1 h i (List.mem_range.2 hlt)
  rw [ho] at h1
  have h2 := Array.all_eq_true_iff_forall_mem.1 h1 e he
  exact of_decide_eq_true h2
end Go.Proofs.YtmacohlmfghffaaGreatH

/- types.effects: a map of closures, whatever the order of its inserts. -/
namespace Go.Proofs.YtmacohlmfghffaaGreat.E
open Go.RowKit Go.Proofs.YtmacohlmfghffaaGreatH
set_option linter.unusedVariables false
theorem blk_cell {w : World} {g : Nat} {t : TypeId} {cs : Array Value} (h : w.heap[g]? = some (.cells cs t (0, 0))) (i : Nat) : w.cell? ⟨g, i, none⟩ = cs[i]? := cell_of_row w g i cs t (0, 0) h
theorem run_store_func {P : Program} {w : World} {a : Addr} {m : Mode} (f : Fn) (x y : Array Value) : (store a (.func f x y) m).run P w = stored P w a (.func f x y) m := run_store P w a _ m rfl
attribute [local go_sem] run_store_func
inductive GK | al (s : ByteArray) | dup | swp | two
def gk (k : Int) : Option (ByteArray × GK) :=
  if k = 1 ∨ k = 11 ∨ k = 13 ∨ k = 15 ∨ k = 17 then some (⟨#[]⟩, .al ⟨#[105]⟩)
  else if k = 12 ∨ k = 14 ∨ k = 16 ∨ k = 18 then some (⟨#[105]⟩, .al ⟨#[]⟩)
  else if k = 2 then some (⟨#[32]⟩, .al ⟨#[]⟩)
  else if k = 3 then some (⟨#[32]⟩, .dup)
  else if k = 4 then some (⟨#[32, 32]⟩, .swp)
  else if k = 5 then some (⟨#[105, 105]⟩, .two)
  else if k = 6 then some (⟨#[105]⟩, .al ⟨#[105]⟩)
  else if k = 7 then some (⟨#[98]⟩, .al ⟨#[98]⟩)
  else if k = 8 ∨ k = 9 then some (⟨#[98, 98]⟩, .al ⟨#[98]⟩)
  else if k = 10 then some (⟨#[98]⟩, .al ⟨#[105]⟩)
  else if k = 20 then some (⟨#[98]⟩, .al ⟨#[]⟩)
  else none
def gfn (BB : Nat) (w : World) (f : Value) : GK → Prop
  | .al s => ∃ p : Nat, BB ≤ p ∧ f = .func (.func 182) #[] #[.pointer (some ⟨p, 0, none⟩)] ∧ w.heap[p]? = some (.cells #[.string s] 9 (0, 0))
  | .dup => f = .func (.func 176) #[] #[]
  | .swp => f = .func (.func 177) #[] #[]
  | .two => f = .func (.func 178) #[] #[]
def Good (BB : Nat) (w : World) (k : Int) (v : Value) : Prop := ∃ t g f, gk k = some (t, g) ∧ v = .agg #[.string t, f] ∧ gfn BB w f g
def KeepC (w w' : World) : Prop := ∀ (k : Nat) (cs : Array Value) (t : TypeId) (sh : Nat × Nat), w.heap[k]? = some (.cells cs t sh) → w'.heap[k]? = some (.cells cs t sh)
theorem KeepC.refl (w : World) : KeepC w w := fun _ _ _ _ h => h
theorem KeepC.trans {a b c : World} (h : KeepC a b) (h2 : KeepC b c) : KeepC a c := fun k cs t sh hk => h2 k cs t sh (h k cs t sh hk)
theorem KeepC.alloc (w : World) (o : Obj) : KeepC w (w.alloc o) := fun k cs t sh hk => by
  have hlt : k < w.heap.size := (Array.getElem?_eq_some_iff.1 hk).1
  rw [Below.heap_alloc _ _ _ hlt]
  exact hk
theorem KeepC.below {w w' : World} (h : Below w.heap.size w w') : KeepC w w' := fun k cs t sh hk => by
  have hlt : k < w.heap.size := (Array.getElem?_eq_some_iff.1 hk).1
  rw [h.block k hlt]
  exact hk
theorem KeepC.map {w w' : World} {b : Nat} {es : Array MapEntry} {c : Nat} (hb : w.heap[b]? = some (.map es c)) (hg : w.grownBy w' (some b)) : KeepC w w' := fun k cs t sh hk => by
  have hlt : k < w.heap.size := (Array.getElem?_eq_some_iff.1 hk).1
  rw [hg.block k hlt (fun e => by injection e with e; subst e; rw [hb] at hk; cases hk)]
  exact hk
theorem gfn_keep {BB : Nat} {w w' : World} (h : KeepC w w') {f : Value} : ∀ {g : GK}, gfn BB w f g → gfn BB w' f g
  | .al s, ⟨p, e0, e, hp⟩ => ⟨p, e0, e, h _ _ _ _ hp⟩
  | .dup, e => e
  | .swp, e => e
  | .two, e => e
theorem Good.keep {BB : Nat} {w w' : World} (h : KeepC w w') {k : Int} {v : Value} : Good BB w k v → Good BB w' k v
  | ⟨t, g, f, e, e2, hg⟩ => ⟨t, g, f, e, e2, gfn_keep h hg⟩
def vp (BB : Nat) : Nat → Option (Nat × (World → Value → Prop))
  | 1 => some (11, (fun W v => Good BB W 1 v))
  | 3 => some (12, (fun W v => Good BB W 11 v))
  | 5 => some (13, (fun W v => Good BB W 13 v))
  | 7 => some (14, (fun W v => Good BB W 15 v))
  | 9 => some (15, (fun W v => Good BB W 17 v))
  | 11 => some (16, (fun W v => Good BB W 12 v))
  | 13 => some (17, (fun W v => Good BB W 14 v))
  | 15 => some (18, (fun W v => Good BB W 16 v))
  | 17 => some (19, (fun W v => Good BB W 18 v))
  | 19 => some (20, (fun W v => gfn BB W v (.al ⟨#[]⟩)))
  | 20 => some (21, (fun W v => Good BB W 2 v))
  | 22 => some (22, (fun W v => Good BB W 3 v))
  | 24 => some (23, (fun W v => Good BB W 4 v))
  | 26 => some (24, (fun W v => Good BB W 5 v))
  | 28 => some (25, (fun W v => gfn BB W v (.al ⟨#[105]⟩)))
  | 29 => some (26, (fun W v => Good BB W 6 v))
  | 31 => some (27, (fun W v => gfn BB W v (.al ⟨#[98]⟩)))
  | 32 => some (28, (fun W v => Good BB W 7 v))
  | 34 => some (29, (fun W v => Good BB W 8 v))
  | 36 => some (30, (fun W v => Good BB W 9 v))
  | 38 => some (31, (fun W v => gfn BB W v (.al ⟨#[105]⟩)))
  | 39 => some (32, (fun W v => Good BB W 10 v))
  | 41 => some (33, (fun W v => gfn BB W v (.al ⟨#[]⟩)))
  | 42 => some (34, (fun W v => Good BB W 20 v))
  | _ => none
def ins : Nat → Option Int
  | 2 => some 1
  | 4 => some 11
  | 6 => some 13
  | 8 => some 15
  | 10 => some 17
  | 12 => some 12
  | 14 => some 14
  | 16 => some 16
  | 18 => some 18
  | 21 => some 2
  | 23 => some 3
  | 25 => some 4
  | 27 => some 5
  | 30 => some 6
  | 33 => some 7
  | 35 => some 8
  | 37 => some 9
  | 40 => some 10
  | 43 => some 20
  | _ => none
def vidx : Nat → Nat
  | 11 => 1
  | 12 => 3
  | 13 => 5
  | 14 => 7
  | 15 => 9
  | 16 => 11
  | 17 => 13
  | 18 => 15
  | 19 => 17
  | 20 => 19
  | 21 => 20
  | 22 => 22
  | 23 => 24
  | 24 => 26
  | 25 => 28
  | 26 => 29
  | 27 => 31
  | 28 => 32
  | 29 => 34
  | 30 => 36
  | 31 => 38
  | 32 => 39
  | 33 => 41
  | 34 => 42
  | _ => 0
def iidx (k : Int) : Nat := if k = 1 then 2 else if k = 11 then 4 else if k = 13 then 6 else if k = 15 then 8 else if k = 17 then 10 else if k = 12 then 12 else if k = 14 then 14 else if k = 16 then 16 else if k = 18 then 18 else if k = 2 then 21 else if k = 3 then 23 else if k = 4 then 25 else if k = 5 then 27 else if k = 6 then 30 else if k = 7 then 33 else if k = 8 then 35 else if k = 9 then 37 else if k = 10 then 40 else if k = 20 then 43 else 0
def RV (v : Value) : Option (DataW Value × List MemPlace) := some (.held v, [])
structure Inv (BB : Nat) (W0 : World) (B1 B2 B3 : Nat) (S : Nat → Bool) (a : Act) (W : World) : Prop where
  base : BB ≤ W0.heap.size
  size : a.tmps.size = 36
  defs : a.defers = []
  keep : KeepC W0 W
  below : Below W0.heap.size W0 W
  s1 : a.eval (.tmp 1) = .pointer (some ⟨B1, 0, none⟩)
  s2 : a.eval (.tmp 2) = .pointer (some ⟨B2, 0, none⟩)
  s3 : a.eval (.tmp 3) = .pointer (some ⟨B3, 0, none⟩)
  vals : ∀ j t p, vp BB j = some (t, p) → S j = true → p W (a.eval (.tmp t))
  made : ∀ j k, ins j = some k → S j = true → S 0 = true
  map : S 0 = true → ∃ (b n : Nat) (D : DataW Value), a.eval (.tmp 10) = .map (some b) ∧ W0.heap.size ≤ b ∧ W.ownsMap Tryz.prog 3 RV b n D ∧ n + cnt S 46 ≤ 46 ∧ ∀ k : Int, (Lit.int .i64 k).wf = true → ((∃ v, (∀ zd, D.atKey (.int .i64 k) zd = .held v) ∧ Good BB W k v ∧ ∃ j, ins j = some k ∧ S j = true) ∨ ((∀ zd, D.atKey (.int .i64 k) zd = zd) ∧ ∀ j, ins j = some k → S j = false))
  mv : S 44 = true → S 0 = true ∧ a.eval (.tmp 35) = a.eval (.tmp 10)
  rs : S 45 = true → S 44 = true ∧ a.eval (.tmp 0) = a.eval (.tmp 35)
theorem eval_put_ne (a : Act) (d t : Nat) (v : Value) (h : d ≠ t) : (a.put (some d) v).eval (.tmp t) = a.eval (.tmp t) := Act.eval_put (fun d' e e2 => by cases e; cases e2; exact h rfl)
theorem eval_put_eq (a : Act) (d : Nat) (v : Value) (h : d < a.tmps.size) : (a.put (some d) v).eval (.tmp d) = v := by
  simp [Act.put, Act.eval, h]
theorem vp_keep {BB : Nat} {w w' : World} (h : KeepC w w') {j t : Nat} {p : World → Value → Prop} (hv : vp BB j = some (t, p)) {v : Value} (hp : p w v) : p w' v := by
  unfold vp at hv
  split at hv <;> first
    | (injection hv with hv; injection hv with h1 h2; subst h2; exact Good.keep h hp)
    | (injection hv with hv; injection hv with h1 h2; subst h2; exact gfn_keep h hp)
    | cases hv
theorem vp_tmp {BB : Nat} {j t : Nat} {p : World → Value → Prop} (hv : vp BB j = some (t, p)) : 11 ≤ t ∧ t ≤ 34 ∧ vidx t = j ∧ 0 < j ∧ j < 44 ∧ ins j = none := by
  unfold vp at hv
  split at hv <;> first
    | (injection hv with hv; injection hv with h1 h2; subst h1; decide)
    | cases hv
theorem ins_idx {BB : Nat} {j : Nat} {k : Int} (hv : ins j = some k) : iidx k = j ∧ 0 < j ∧ j < 44 ∧ vp BB j = none ∧ (Lit.int .i64 k).wf = true := by
  unfold ins at hv
  split at hv <;> first
    | (injection hv with hv; subst hv; exact ⟨by decide, by decide, by decide, rfl, by decide⟩)
    | cases hv
theorem don_ne {S : Nat → Bool} {i j : Nat} (h : i ≠ j) : don S j i = S i := by simp [don, h]
theorem don_eq {S : Nat → Bool} {j : Nat} : don S j j = true := by simp [don]
section
variable {BB : Nat} {W0 W W' : World} {B1 B2 B3 : Nat} {S : Nat → Bool} {a : Act}
theorem Inv.value (h : Inv BB W0 B1 B2 B3 S a W) {j t : Nat} {p : World → Value → Prop} {v : Value} (hv : vp BB j = some (t, p)) (hS : S j = false) (hk : KeepC W W') (hb : Below W0.heap.size W0 W') (hm : ∀ b n D, W.ownsMap Tryz.prog 3 RV b n D → W'.ownsMap Tryz.prog 3 RV b n D) (hp : p W' v) : Inv BB W0 B1 B2 B3 (don S j) (a.put (some t) v) W' := by
  obtain ⟨t1, t2, t3, t4, t5, t6⟩ := vp_tmp hv
  have hne : ∀ x : Nat, x < 11 ∨ 34 < x → (a.put (some t) v).eval (.tmp x) = a.eval (.tmp x) := fun x hx => eval_put_ne a t x v (by omega)
  refine ⟨h.base, by simpa [Act.put] using h.size, h.defs, h.keep.trans hk, hb, (hne 1 (by omega)).trans h.s1, (hne 2 (by omega)).trans h.s2, (hne 3 (by omega)).trans h.s3, ?_, ?_, ?_, ?_, ?_⟩
  · intro j' t' p' hv' hS'
    by_cases e : j' = j
    · subst e
      rw [hv] at hv'
      injection hv' with hv'
      injection hv' with e1 e2
      subst e1
      subst e2
      rw [eval_put_eq a t v (by have := h.size; omega)]
      exact hp
    · rw [don_ne e] at hS'
      rw [eval_put_ne a t t' v (fun e2 => by subst e2; exact e ((vp_tmp hv').2.2.1.symm.trans t3))]
      exact vp_keep hk hv' (h.vals j' t' p' hv' hS')
  · intro j' k hi hS'
    have e : j' ≠ j := fun e => by subst e; rw [t6] at hi; cases hi
    rw [don_ne e] at hS'
    rw [don_ne (by omega)]
    exact h.made j' k hi hS'
  · intro h0
    rw [don_ne (by omega)] at h0
    obtain ⟨b, n, D, g1, g2, g3, g4, g5⟩ := h.map h0
    refine ⟨b, n, D, (hne 10 (by omega)).trans g1, g2, hm _ _ _ g3, ?_, fun k hw => ?_⟩
    · have := cnt_don S j hS 46 (by omega)
      omega
    · rcases g5 k hw with ⟨x, x1, x2, j', x3, x4⟩ | ⟨x1, x2⟩
      · exact .inl ⟨x, x1, x2.keep hk, j', x3, by rw [don_ne (fun e => by subst e; rw [t6] at x3; cases x3)]; exact x4⟩
      · exact .inr ⟨x1, fun j' x3 => by rw [don_ne (fun e => by subst e; rw [t6] at x3; cases x3)]; exact x2 j' x3⟩
  · intro h0
    rw [don_ne (by omega)] at h0
    rw [don_ne (by omega), hne 35 (by omega), hne 10 (by omega)]
    exact h.mv h0
  · intro h0
    rw [don_ne (by omega)] at h0
    rw [don_ne (by omega), hne 0 (by omega), hne 35 (by omega)]
    exact h.rs h0
theorem Inv.insert (h : Inv BB W0 B1 B2 B3 S a W) {j : Nat} {k : Int} {v : Value} {b n : Nat} {D : DataW Value} (hi : ins j = some k) (hS : S j = false) (hS0 : S 0 = true) (g1 : a.eval (.tmp 10) = .map (some b)) (g2 : W0.heap.size ≤ b) (g3 : W.ownsMap Tryz.prog 3 RV b n D) (g4 : n + cnt S 46 ≤ 46) (g5 : ∀ k : Int, (Lit.int .i64 k).wf = true → ((∃ v, (∀ zd, D.atKey (.int .i64 k) zd = .held v) ∧ Good BB W k v ∧ ∃ j, ins j = some k ∧ S j = true) ∨ ((∀ zd, D.atKey (.int .i64 k) zd = zd) ∧ ∀ j, ins j = some k → S j = false))) (hg : Good BB W k v)
    (hm : W'.ownsMap Tryz.prog 3 RV b (n + 1) (D.put (.int .i64 k) (.held v))) (hgr : W.grownBy W' (some b)) : Inv BB W0 B1 B2 B3 (don S j) a W' := by
  obtain ⟨t1, t2, t3, t4, t5⟩ := ins_idx (BB := BB) hi
  have hk : KeepC W W' := by
    obtain ⟨es, c, hb, _⟩ := g3
    exact KeepC.map hb hgr
  have hD : Maps.IsMap D := by
    obtain ⟨es, c, hb, _, _, e⟩ := g3
    exact ⟨_, e⟩
  refine ⟨h.base, h.size, h.defs, h.keep.trans hk, h.below.grown hgr h.below.size (fun j hj => by cases hj; exact g2), h.s1, h.s2, h.s3, ?_, ?_, ?_, ?_, ?_⟩
  · intro j' t' p' hv' hS'
    rw [don_ne (fun e => by subst e; rw [t4] at hv'; cases hv')] at hS'
    exact vp_keep hk hv' (h.vals j' t' p' hv' hS')
  · intro j' k' hi' hS'
    rw [don_ne (by omega)]
    exact hS0
  · intro _
    refine ⟨b, n + 1, _, g1, g2, hm, ?_, fun k' hw => ?_⟩
    · have := cnt_don S j hS 46 (by omega)
      omega
    · by_cases e : k' = k
      · subst e
        exact .inl ⟨v, fun zd => Maps.atKey_put_same hD (by first | exact trivial | simp [WideAt.IsKeyLit]) _ zd, hg.keep hk, j, hi, don_eq⟩
      · have hne : (Lit.int IntKind.i64 k') ≠ .int .i64 k := fun e2 => e (by injection e2)
        rcases g5 k' hw with ⟨x, x1, x2, j', x3, x4⟩ | ⟨x1, x2⟩
        · refine .inl ⟨x, fun zd => (Maps.atKey_put_other hne _ zd).trans (x1 zd), x2.keep hk, j', x3, ?_⟩
          rw [don_ne (fun e2 => by subst e2; rw [hi] at x3; injection x3 with x3; exact e x3.symm)]
          exact x4
        · refine .inr ⟨fun zd => (Maps.atKey_put_other hne _ zd).trans (x1 zd), fun j' x3 => ?_⟩
          rw [don_ne (fun e2 => by subst e2; rw [hi] at x3; injection x3 with x3; exact e x3.symm)]
          exact x2 j' x3
  · intro h0
    rw [don_ne (by omega)] at h0 ⊢
    exact h.mv h0
  · intro h0
    rw [don_ne (by omega)] at h0 ⊢
    exact h.rs h0
end
theorem wpOp_of {P : Program} {ops : Array Oper} {Q : Exit → Act → World → Prop} {i : Nat} {o : Oper} {a : Act} {w : World} {K : Act → World → Prop} (ho : ops[i]? = some o) (hg : o.guard = none) (h : o.wp P a w K Q) : wpOp P ops Q i K a w := by
  unfold wpOp
  rw [ho]
  have hw : Region.wanted o (yielded ops a.tmps) = true := by simp [Region.wanted, hg]
  simp only [hw, if_true]
  exact .inl h
set_option maxHeartbeats 8000000 in
set_option maxRecDepth 100000 in
theorem always_calls (s : ByteArray) (w : World) : Calls Tryz.prog 175 #[.string s] w fun e w' => e = .returned (.func (.func 182) #[] #[.pointer (some ⟨w.heap.size, 0, none⟩)]) ∧ w' = w.alloc (.cells #[.string s] 9) := by
  go_enter Tryz.func175, Tryz.ntmps175
  go_wp2
  go_ret
  exact ⟨rfl, rfl⟩
section
variable {BB : Nat} {W0 W : World} {B1 B2 B3 : Nat} {S : Nat → Bool} {a : Act} {ops : Array Oper} {o : Oper} {Q : Exit → Act → World → Prop}
theorem st_load {j t s B : Nat} {k : Int} {x y : Value} (h : Inv BB W0 B1 B2 B3 S a W) (ho : ops[j]? = some o) (hop : o.op = .load 249 (.tmp s)) (hd : o.dst = some t) (hg : o.guard = none) (hs : a.eval (.tmp s) = .pointer (some ⟨B, 0, none⟩)) (hB : W0.heap[B]? = some (.cells #[x, y] 249 (0, 0))) (hv : vp BB j = some (t, fun W v => Good BB W k v)) (hS : S j = false) (hgd : Good BB W0 k (.agg #[x, y])) : wpOp Tryz.prog ops Q j (Inv BB W0 B1 B2 B3 (don S j)) a W := by
  have hBW := h.keep B _ _ _ hB
  have hx0 : W.cell? ⟨B, 0, none⟩ = some x := (blk_cell hBW 0).trans rfl
  have hx1 : W.cell? ⟨B, 1, none⟩ = some y := (blk_cell hBW 1).trans rfl
  have hu := Tryz.underlying249
  have hI := h.value hv hS (KeepC.refl W) h.below (fun _ _ _ hm => hm) (hgd.keep h.keep)
  refine wpOp_of ho hg ?_
  unfold Oper.wp
  simp only [execOp, hop, hs, hd]
  go_simp
  first | exact hI | trace_state
theorem st_call {j t : Nat} {s : ByteArray} (h : Inv BB W0 B1 B2 B3 S a W) (ho : ops[j]? = some o) (hop : o.op = .call { callee := .value (.func 175), args := #[.const (.string s)], argTypes := #[9] }) (hd : o.dst = some t) (hg : o.guard = none) (hv : vp BB j = some (t, fun W v => gfn BB W v (.al s))) (hS : S j = false) : wpOp Tryz.prog ops Q j (Inv BB W0 B1 B2 B3 (don S j)) a W := by
  refine wpOp_of ho hg ?_
  unfold Oper.wp
  have hrun : (execOp a.eval o).run Tryz.prog W = .ok (.enter 175 #[.string s]) W := by
    simp only [execOp, hop]
    go_simp
  rw [hrun]
  refine (always_calls s W).mono ?_
  rintro e w' ⟨rfl, rfl⟩
  rw [hd]
  exact h.value hv hS (KeepC.alloc W _) (h.below.alloc h.below.size _) (fun _ _ _ hm => hm.alloc _) ⟨W.heap.size, Nat.le_trans h.base h.below.size, rfl, Go.heap_alloc_new W _⟩
theorem st_build {j t : Nat} {k : Int} {F : Fn} {xs ys : Array Value} {x : Operand} {tk : ByteArray} (h : Inv BB W0 B1 B2 B3 S a W) (ho : ops[j]? = some o) (hop : o.op = .build 249 #[(0, .const (.string tk)), (1, x)]) (hd : o.dst = some t) (hg : o.guard = none) (hx : a.eval x = .func F xs ys) (hv : vp BB j = some (t, fun W v => Good BB W k v)) (hS : S j = false) (hgd : Good BB W k (.agg #[.string tk, .func F xs ys])) : wpOp Tryz.prog ops Q j (Inv BB W0 B1 B2 B3 (don S j)) a W := by
  have hu := Tryz.underlying249
  have hI := h.value hv hS (KeepC.refl W) h.below (fun _ _ _ hm => hm) hgd
  refine wpOp_of ho hg ?_
  unfold Oper.wp
  have hrun : (execOp a.eval o).run Tryz.prog W = .ok (.value (.agg #[.string tk, .func F xs ys])) W := by
    have hc : ∀ v, a.eval (.const v) = v := fun _ => rfl
    generalize a.eval = ρ at hx hc
    simp only [execOp, hop]
    go_simp
  rw [hrun]
  show Inv BB W0 B1 B2 B3 (don S j) (a.put o.dst _) W
  rw [hd]
  exact hI
theorem st_ins {j t jv : Nat} {k : Int} (h : Inv BB W0 B1 B2 B3 S a W) (ho : ops[j]? = some o) (hop : o.op = .insert 250 (.tmp 10) (.const (.int .i64 k)) (.tmp t)) (hd : o.dst = none) (hg : o.guard = none) (hi : ins j = some k) (hS : S j = false) (hS0 : S 0 = true) (hv : vp BB jv = some (t, fun W v => Good BB W k v)) (hSv : S jv = true) : wpOp Tryz.prog ops Q j (Inv BB W0 B1 B2 B3 (don S j)) a W := by
  obtain ⟨b, n, D, g1, g2, g3, g4, g5⟩ := h.map hS0
  have hgd := h.vals jv t _ hv hSv
  obtain ⟨t1, t2, t3, t4, t5⟩ := ins_idx (BB := BB) hi
  have hkey : keyOf Tryz.prog 3 (.int .i64 k) = some (.int .i64 k) := Maps.keyOf_int_mk Tryz.underlying3 t5
  obtain ⟨w', hrun, r1, r2⟩ := g3.update (Maps.int_keyed Tryz.underlying3) Tryz.underlying250 (by unfold maxLen; omega) hkey (val := a.eval (.tmp t)) (ps := []) rfl
  refine wpOp_of ho hg ?_
  unfold Oper.wp
  simp [execOp, hop, g1, hrun, Result.andThen, BigFrame.eval_const]
  show Inv BB W0 B1 B2 B3 (don S j) (a.put o.dst undef) w'
  rw [hd]
  exact h.insert hi hS hS0 g1 g2 g3 g4 g5 hgd r1 r2
end
theorem cnt_max (S : Nat → Bool) : ∀ n, cnt S n ≤ n
  | 0 => Nat.le_refl _
  | n + 1 => by
    have := cnt_max S n
    simp only [cnt]
    split <;> omega
theorem gk_ins {k : Int} (h : gk k ≠ none) : ∃ j, ins j = some k := by
  unfold gk at h
  repeat' split at h
  all_goals first
    | exact absurd rfl h
    | (rename_i hk; rcases hk with rfl | rfl | rfl | rfl | rfl <;> first | exact ⟨2, rfl⟩ | exact ⟨4, rfl⟩ | exact ⟨6, rfl⟩ | exact ⟨8, rfl⟩ | exact ⟨10, rfl⟩)
    | (rename_i hk; rcases hk with rfl | rfl | rfl | rfl <;> first | exact ⟨12, rfl⟩ | exact ⟨14, rfl⟩ | exact ⟨16, rfl⟩ | exact ⟨18, rfl⟩)
    | (rename_i hk; rcases hk with rfl | rfl <;> first | exact ⟨35, rfl⟩ | exact ⟨37, rfl⟩)
    | (rename_i hk; subst hk; first | exact ⟨21, rfl⟩ | exact ⟨23, rfl⟩ | exact ⟨25, rfl⟩ | exact ⟨27, rfl⟩ | exact ⟨30, rfl⟩ | exact ⟨33, rfl⟩ | exact ⟨40, rfl⟩ | exact ⟨43, rfl⟩)
section
variable {BB : Nat} {W0 W : World} {B1 B2 B3 : Nat} {S : Nat → Bool} {a : Act} {ops : Array Oper} {o : Oper} {Q : Exit → Act → World → Prop}
theorem st_make (h : Inv BB W0 B1 B2 B3 S a W) (ho : ops[0]? = some o) (hop : o.op = .makeMap 250 none) (hd : o.dst = some 10) (hg : o.guard = none) (hS : S 0 = false) : wpOp Tryz.prog ops Q 0 (Inv BB W0 B1 B2 B3 (don S 0)) a W := by
  have hmm := @run_makeMap Tryz.prog
  refine wpOp_of ho hg ?_
  have hrun : (execOp a.eval o).run Tryz.prog W = .ok (.value (.map (some W.heap.size))) (W.alloc (.map #[] 0)) := by
    simp only [execOp, hop]
    go_simp
  unfold Oper.wp
  rw [hrun]
  show Inv BB W0 B1 B2 B3 (don S 0) (a.put o.dst _) _
  rw [hd]
  have hno : ∀ j k, ins j = some k → S j = false := fun j k hi => by
    cases hj : S j with
    | false => rfl
    | true => have := h.made j k hi hj; rw [hS] at this; cases this
  have h44 : S 44 = false := by
    cases hj : S 44 with
    | false => rfl
    | true => have := (h.mv hj).1; rw [hS] at this; cases this
  have h45 : S 45 = false := by
    cases hj : S 45 with
    | false => rfl
    | true => have := (h.rs hj).1; rw [h44] at this; cases this
  have hne : ∀ x : Nat, x ≠ 10 → (a.put (some 10) (.map (some W.heap.size))).eval (.tmp x) = a.eval (.tmp x) := fun x hx => eval_put_ne a 10 x _ (by omega)
  refine ⟨h.base, by simpa [Act.put] using h.size, h.defs, h.keep.trans (KeepC.alloc W _), h.below.alloc h.below.size _, (hne 1 (by omega)).trans h.s1, (hne 2 (by omega)).trans h.s2, (hne 3 (by omega)).trans h.s3, ?_, ?_, ?_, ?_, ?_⟩
  · intro j t p hv hSj
    obtain ⟨t1, t2, t3, t4, t5, t6⟩ := vp_tmp hv
    rw [don_ne (by omega)] at hSj
    rw [hne t (by omega)]
    exact vp_keep (KeepC.alloc W _) hv (h.vals j t p hv hSj)
  · intro j k hi hSj
    exact don_eq
  · intro _
    refine ⟨W.heap.size, 0, .map [], eval_put_eq a 10 _ (by have := h.size; omega), h.below.size, World.ownsMap_made _ _ _ _, by have := cnt_max (don S 0) 46; omega, fun k hw => .inr ⟨fun zd => rfl, fun j hi => ?_⟩⟩
    rw [don_ne (by have := ins_idx (BB := BB) hi; omega)]
    exact hno j k hi
  · intro h0
    rw [don_ne (by omega), h44] at h0
    cases h0
  · intro h0
    rw [don_ne (by omega), h45] at h0
    cases h0
theorem st_move (h : Inv BB W0 B1 B2 B3 S a W) (ho : ops[44]? = some o) (hop : o.op = .move (.tmp 10)) (hd : o.dst = some 35) (hg : o.guard = none) (hS : S 44 = false) (hS0 : S 0 = true) : wpOp Tryz.prog ops Q 44 (Inv BB W0 B1 B2 B3 (don S 44)) a W := by
  refine wpOp_of ho hg ?_
  have hrun : (execOp a.eval o).run Tryz.prog W = .ok (.value (a.eval (.tmp 10))) W := by
    simp only [execOp, hop]
    go_simp
  unfold Oper.wp
  rw [hrun]
  show Inv BB W0 B1 B2 B3 (don S 44) (a.put o.dst _) _
  rw [hd]
  have h45 : S 45 = false := by
    cases hj : S 45 with
    | false => rfl
    | true => have := (h.rs hj).1; rw [hS] at this; cases this
  have hne : ∀ x : Nat, x ≠ 35 → (a.put (some 35) (a.eval (.tmp 10))).eval (.tmp x) = a.eval (.tmp x) := fun x hx => eval_put_ne a 35 x _ (by omega)
  refine ⟨h.base, by simpa [Act.put] using h.size, h.defs, h.keep, h.below, (hne 1 (by omega)).trans h.s1, (hne 2 (by omega)).trans h.s2, (hne 3 (by omega)).trans h.s3, ?_, ?_, ?_, ?_, ?_⟩
  · intro j t p hv hSj
    obtain ⟨t1, t2, t3, t4, t5, t6⟩ := vp_tmp hv
    rw [don_ne (by omega)] at hSj
    rw [hne t (by omega)]
    exact h.vals j t p hv hSj
  · intro j k hi hSj
    rw [don_ne (by omega)]
    exact hS0
  · intro h0
    obtain ⟨b, n, D, g1, g2, g3, g4, g5⟩ := h.map hS0
    refine ⟨b, n, D, (hne 10 (by omega)).trans g1, g2, g3, by have := cnt_don S 44 hS 46 (by omega); omega, fun k hw => ?_⟩
    rcases g5 k hw with ⟨x, x1, x2, j', x3, x4⟩ | ⟨x1, x2⟩
    · exact .inl ⟨x, x1, x2, j', x3, by rw [don_ne (by have := ins_idx (BB := BB) x3; omega)]; exact x4⟩
    · exact .inr ⟨x1, fun j' x3 => by rw [don_ne (by have := ins_idx (BB := BB) x3; omega)]; exact x2 j' x3⟩
  · intro _
    rw [don_ne (by omega)]
    exact ⟨hS0, by rw [eval_put_eq a 35 _ (by have := h.size; omega), hne 10 (by omega)]⟩
  · intro h0
    rw [don_ne (by omega), h45] at h0
    cases h0
theorem st_res (h : Inv BB W0 B1 B2 B3 S a W) (ho : ops[45]? = some o) (hop : o.op = .assign (.tmp 35)) (hd : o.dst = some 0) (hg : o.guard = none) (hS : S 45 = false) (hS44 : S 44 = true) : wpOp Tryz.prog ops Q 45 (Inv BB W0 B1 B2 B3 (don S 45)) a W := by
  refine wpOp_of ho hg ?_
  have hrun : (execOp a.eval o).run Tryz.prog W = .ok (.value (a.eval (.tmp 35))) W := by
    simp only [execOp, hop]
    go_simp
  unfold Oper.wp
  rw [hrun]
  show Inv BB W0 B1 B2 B3 (don S 45) (a.put o.dst _) _
  rw [hd]
  have hS0 := (h.mv hS44).1
  have hne : ∀ x : Nat, x ≠ 0 → (a.put (some 0) (a.eval (.tmp 35))).eval (.tmp x) = a.eval (.tmp x) := fun x hx => eval_put_ne a 0 x _ (by omega)
  refine ⟨h.base, by simpa [Act.put] using h.size, h.defs, h.keep, h.below, (hne 1 (by omega)).trans h.s1, (hne 2 (by omega)).trans h.s2, (hne 3 (by omega)).trans h.s3, ?_, ?_, ?_, ?_, ?_⟩
  · intro j t p hv hSj
    obtain ⟨t1, t2, t3, t4, t5, t6⟩ := vp_tmp hv
    rw [don_ne (by omega)] at hSj
    rw [hne t (by omega)]
    exact h.vals j t p hv hSj
  · intro j k hi hSj
    rw [don_ne (by omega)]
    exact hS0
  · intro h0
    obtain ⟨b, n, D, g1, g2, g3, g4, g5⟩ := h.map hS0
    refine ⟨b, n, D, (hne 10 (by omega)).trans g1, g2, g3, by have := cnt_don S 45 hS 46 (by omega); omega, fun k hw => ?_⟩
    rcases g5 k hw with ⟨x, x1, x2, j', x3, x4⟩ | ⟨x1, x2⟩
    · exact .inl ⟨x, x1, x2, j', x3, by rw [don_ne (by have := ins_idx (BB := BB) x3; omega)]; exact x4⟩
    · exact .inr ⟨x1, fun j' x3 => by rw [don_ne (by have := ins_idx (BB := BB) x3; omega)]; exact x2 j' x3⟩
  · intro _
    rw [don_ne (by omega), hne 35 (by omega), hne 10 (by omega)]
    exact h.mv hS44
  · intro _
    rw [don_ne (by omega)]
    exact ⟨hS44, by rw [eval_put_eq a 0 _ (by have := h.size; omega), hne 35 (by omega)]⟩
end
end Go.Proofs.YtmacohlmfghffaaGreat.E
