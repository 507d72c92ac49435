/- A part of the proofs: types.effects: a map of closures, whatever the order of its inserts. -/
import Derived.Test.YtfppdlcgipnacaaMB2
import Derived.Test.YtfppdlcgipnacaaProg
import Derived.Tactics2
import Derived.RowKit
import Derived.KernelRfl
import Derived.Maps.OwnSet
import Derived.BigFrame
import Derived.WideLaws
import Derived.WalkKit
import Derived.RowKit3
import Derived.OwnWalk
import Derived.OrdersHeld
import Derived.Maps.AppendAt
import Derived.Lib.ConvBytes
import Derived.Lib.AppendStr
import Derived.Laws.Slices
import Derived.Laws.Rows
import Derived.Laws.OwnMore
import Derived.Laws.MakeOwn
import Derived.Laws.IdiomCopy
import Derived.Laws.BytesArg
import Derived.Laws.BitsLemmas
import Derived.Deep.RegionHeld3
import Derived.Deep.QuietTactic
import Derived.Deep.OwnRows
import Derived.Deep.LoopGhost
import Derived.Deep.Draws
import Derived.Deep.DeepCutAuto
import Derived.Deep.CutBlock
import Derived.Deep.AppendLies
import Derived.BigQuiet
import Derived.Below
import Derived.ArgAppend
import Derived.Scope
/- types.effects: a map of closures, whatever the order of its inserts. -/
namespace Go.Proofs.Ytfppdlcgipnacaa.E
open Go.RowKit Go.Proofs.YtfppdlcgipnacaaH
set_option linter.unusedVariables false
theorem blk_cell {w : World} {g : Nat} {t : TypeId} {cs : Array Value} (h : w.heap[g]? = some (.cells cs t (0, 0))) (i : Nat) : w.cell? ⟨g, i, none⟩ = cs[i]? := cell_of_row w g i cs t (0, 0) h
theorem run_store_func {P : Program} {w : World} {a : Addr} {m : Mode} (f : Fn) (x y : Array Value) : (store a (.func f x y) m).run P w = stored P w a (.func f x y) m := run_store P w a _ m rfl
attribute [local go_sem] run_store_func
inductive GK | al (s : ByteArray) | dup | swp | two
/-- What an operation takes, and what it gives for that. -/
def gk (k : Int) : Option (ByteArray × GK) :=
  if k = 1 ∨ k = 11 ∨ k = 13 ∨ k = 15 ∨ k = 17 then some (⟨#[]⟩, .al ⟨#[105]⟩)
  else if k = 12 ∨ k = 14 ∨ k = 16 ∨ k = 18 then some (⟨#[105]⟩, .al ⟨#[]⟩)
  else if k = 2 then some (⟨#[32]⟩, .al ⟨#[]⟩)
  else if k = 3 then some (⟨#[32]⟩, .dup)
  else if k = 4 then some (⟨#[32, 32]⟩, .swp)
  else if k = 5 then some (⟨#[105, 105]⟩, .two)
  else if k = 6 then some (⟨#[105]⟩, .al ⟨#[105]⟩)
  else if k = 7 then some (⟨#[98]⟩, .al ⟨#[98]⟩)
  else if k = 8 ∨ k = 9 then some (⟨#[98, 98]⟩, .al ⟨#[98]⟩)
  else if k = 10 then some (⟨#[98]⟩, .al ⟨#[105]⟩)
  else if k = 20 then some (⟨#[98]⟩, .al ⟨#[]⟩)
  else none
def gfn (BB : Nat) (w : World) (f : Value) : GK → Prop
  | .al s => ∃ p : Nat, BB ≤ p ∧ f = .func (.func 110) #[] #[.pointer (some ⟨p, 0, none⟩)] ∧ w.heap[p]? = some (.cells #[.string s] 9 (0, 0))
  | .dup => f = .func (.func 96) #[] #[]
  | .swp => f = .func (.func 97) #[] #[]
  | .two => f = .func (.func 98) #[] #[]
def Good (BB : Nat) (w : World) (k : Int) (v : Value) : Prop := ∃ t g f, gk k = some (t, g) ∧ v = .agg #[.string t, f] ∧ gfn BB w f g
/-- All blocks of cells stay. -/
def KeepC (w w' : World) : Prop := ∀ (k : Nat) (cs : Array Value) (t : TypeId) (sh : Nat × Nat), w.heap[k]? = some (.cells cs t sh) → w'.heap[k]? = some (.cells cs t sh)
theorem KeepC.refl (w : World) : KeepC w w := fun _ _ _ _ h => h
theorem KeepC.trans {a b c : World} (h : KeepC a b) (h2 : KeepC b c) : KeepC a c := fun k cs t sh hk => h2 k cs t sh (h k cs t sh hk)
theorem KeepC.alloc (w : World) (o : Obj) : KeepC w (w.alloc o) := fun k cs t sh hk => by
  have hlt : k < w.heap.size := (Array.getElem?_eq_some_iff.1 hk).1
  rw [Below.heap_alloc _ _ _ hlt]
  exact hk
theorem KeepC.below {w w' : World} (h : Below w.heap.size w w') : KeepC w w' := fun k cs t sh hk => by
  have hlt : k < w.heap.size := (Array.getElem?_eq_some_iff.1 hk).1
  rw [h.block k hlt]
  exact hk
theorem KeepC.map {w w' : World} {b : Nat} {es : Array MapEntry} {c : Nat} (hb : w.heap[b]? = some (.map es c)) (hg : w.grownBy w' (some b)) : KeepC w w' := fun k cs t sh hk => by
  have hlt : k < w.heap.size := (Array.getElem?_eq_some_iff.1 hk).1
  rw [hg.block k hlt (fun e => by injection e with e; subst e; rw [hb] at hk; cases hk)]
  exact hk
theorem gfn_keep {BB : Nat} {w w' : World} (h : KeepC w w') {f : Value} : ∀ {g : GK}, gfn BB w f g → gfn BB w' f g
  | .al s, ⟨p, e0, e, hp⟩ => ⟨p, e0, e, h _ _ _ _ hp⟩
  | .dup, e => e
  | .swp, e => e
  | .two, e => e
theorem Good.keep {BB : Nat} {w w' : World} (h : KeepC w w') {k : Int} {v : Value} : Good BB w k v → Good BB w' k v
  | ⟨t, g, f, e, e2, hg⟩ => ⟨t, g, f, e, e2, gfn_keep h hg⟩
def vp (BB : Nat) : Nat → Option (Nat × (World → Value → Prop))
  | 1 => some (11, (fun W v => Good BB W 1 v))
  | 3 => some (12, (fun W v => Good BB W 11 v))
  | 5 => some (13, (fun W v => Good BB W 13 v))
  | 7 => some (14, (fun W v => Good BB W 15 v))
  | 9 => some (15, (fun W v => Good BB W 17 v))
  | 11 => some (16, (fun W v => Good BB W 12 v))
  | 13 => some (17, (fun W v => Good BB W 14 v))
  | 15 => some (18, (fun W v => Good BB W 16 v))
  | 17 => some (19, (fun W v => Good BB W 18 v))
  | 19 => some (20, (fun W v => gfn BB W v (.al ⟨#[]⟩)))
  | 20 => some (21, (fun W v => Good BB W 2 v))
  | 22 => some (22, (fun W v => Good BB W 3 v))
  | 24 => some (23, (fun W v => Good BB W 4 v))
  | 26 => some (24, (fun W v => Good BB W 5 v))
  | 28 => some (25, (fun W v => gfn BB W v (.al ⟨#[105]⟩)))
  | 29 => some (26, (fun W v => Good BB W 6 v))
  | 31 => some (27, (fun W v => gfn BB W v (.al ⟨#[98]⟩)))
  | 32 => some (28, (fun W v => Good BB W 7 v))
  | 34 => some (29, (fun W v => Good BB W 8 v))
  | 36 => some (30, (fun W v => Good BB W 9 v))
  | 38 => some (31, (fun W v => gfn BB W v (.al ⟨#[105]⟩)))
  | 39 => some (32, (fun W v => Good BB W 10 v))
  | 41 => some (33, (fun W v => gfn BB W v (.al ⟨#[]⟩)))
  | 42 => some (34, (fun W v => Good BB W 20 v))
  | _ => none
def ins : Nat → Option Int
  | 2 => some 1
  | 4 => some 11
  | 6 => some 13
  | 8 => some 15
  | 10 => some 17
  | 12 => some 12
  | 14 => some 14
  | 16 => some 16
  | 18 => some 18
  | 21 => some 2
  | 23 => some 3
  | 25 => some 4
  | 27 => some 5
  | 30 => some 6
  | 33 => some 7
  | 35 => some 8
  | 37 => some 9
  | 40 => some 10
  | 43 => some 20
  | _ => none
def vidx : Nat → Nat
  | 11 => 1
  | 12 => 3
  | 13 => 5
  | 14 => 7
  | 15 => 9
  | 16 => 11
  | 17 => 13
  | 18 => 15
  | 19 => 17
  | 20 => 19
  | 21 => 20
  | 22 => 22
  | 23 => 24
  | 24 => 26
  | 25 => 28
  | 26 => 29
  | 27 => 31
  | 28 => 32
  | 29 => 34
  | 30 => 36
  | 31 => 38
  | 32 => 39
  | 33 => 41
  | 34 => 42
  | _ => 0
def iidx (k : Int) : Nat := if k = 1 then 2 else if k = 11 then 4 else if k = 13 then 6 else if k = 15 then 8 else if k = 17 then 10 else if k = 12 then 12 else if k = 14 then 14 else if k = 16 then 16 else if k = 18 then 18 else if k = 2 then 21 else if k = 3 then 23 else if k = 4 then 25 else if k = 5 then 27 else if k = 6 then 30 else if k = 7 then 33 else if k = 8 then 35 else if k = 9 then 37 else if k = 10 then 40 else if k = 20 then 43 else 0
/-- Every element is read as itself. -/
def RV (v : Value) : Option (DataW Value × List MemPlace) := some (.held v, [])
structure Inv (BB : Nat) (W0 : World) (B1 B2 B3 : Nat) (S : Nat → Bool) (a : Act) (W : World) : Prop where
  base : BB ≤ W0.heap.size
  size : a.tmps.size = 36
  defs : a.defers = []
  keep : KeepC W0 W
  below : Below W0.heap.size W0 W
  s1 : a.eval (.tmp 1) = .pointer (some ⟨B1, 0, none⟩)
  s2 : a.eval (.tmp 2) = .pointer (some ⟨B2, 0, none⟩)
  s3 : a.eval (.tmp 3) = .pointer (some ⟨B3, 0, none⟩)
  vals : ∀ j t p, vp BB j = some (t, p) → S j = true → p W (a.eval (.tmp t))
  made : ∀ j k, ins j = some k → S j = true → S 0 = true
  map : S 0 = true → ∃ (b n : Nat) (D : DataW Value), a.eval (.tmp 10) = .map (some b) ∧ W0.heap.size ≤ b ∧ W.ownsMap Try.prog 3 RV b n D ∧ n + cnt S 46 ≤ 46 ∧ ∀ k : Int, (Lit.int .i64 k).wf = true → ((∃ v, (∀ zd, D.atKey (.int .i64 k) zd = .held v) ∧ Good BB W k v ∧ ∃ j, ins j = some k ∧ S j = true) ∨ ((∀ zd, D.atKey (.int .i64 k) zd = zd) ∧ ∀ j, ins j = some k → S j = false))
  mv : S 44 = true → S 0 = true ∧ a.eval (.tmp 35) = a.eval (.tmp 10)
  rs : S 45 = true → S 44 = true ∧ a.eval (.tmp 0) = a.eval (.tmp 35)
theorem eval_put_ne (a : Act) (d t : Nat) (v : Value) (h : d ≠ t) : (a.put (some d) v).eval (.tmp t) = a.eval (.tmp t) := Act.eval_put (fun d' e e2 => by cases e; cases e2; exact h rfl)
theorem eval_put_eq (a : Act) (d : Nat) (v : Value) (h : d < a.tmps.size) : (a.put (some d) v).eval (.tmp d) = v := by
  simp [Act.put, Act.eval, h]
theorem vp_keep {BB : Nat} {w w' : World} (h : KeepC w w') {j t : Nat} {p : World → Value → Prop} (hv : vp BB j = some (t, p)) {v : Value} (hp : p w v) : p w' v := by
  unfold vp at hv
  split at hv <;> first
    | (injection hv with hv; injection hv with h1 h2; subst h2; exact Good.keep h hp)
    | (injection hv with hv; injection hv with h1 h2; subst h2; exact gfn_keep h hp)
    | cases hv
theorem vp_tmp {BB : Nat} {j t : Nat} {p : World → Value → Prop} (hv : vp BB j = some (t, p)) : 11 ≤ t ∧ t ≤ 34 ∧ vidx t = j ∧ 0 < j ∧ j < 44 ∧ ins j = none := by
  unfold vp at hv
  split at hv <;> first
    | (injection hv with hv; injection hv with h1 h2; subst h1; decide)
    | cases hv
theorem ins_idx {BB : Nat} {j : Nat} {k : Int} (hv : ins j = some k) : iidx k = j ∧ 0 < j ∧ j < 44 ∧ vp BB j = none ∧ (Lit.int .i64 k).wf = true := by
  unfold ins at hv
  split at hv <;> first
    | (injection hv with hv; subst hv; exact ⟨by decide, by decide, by decide, rfl, by decide⟩)
    | cases hv
theorem don_ne {S : Nat → Bool} {i j : Nat} (h : i ≠ j) : don S j i = S i := by simp [don, h]
theorem don_eq {S : Nat → Bool} {j : Nat} : don S j j = true := by simp [don]
section
variable {BB : Nat} {W0 W W' : World} {B1 B2 B3 : Nat} {S : Nat → Bool} {a : Act}
theorem Inv.value (h : Inv BB W0 B1 B2 B3 S a W) {j t : Nat} {p : World → Value → Prop} {v : Value} (hv : vp BB j = some (t, p)) (hS : S j = false) (hk : KeepC W W') (hb : Below W0.heap.size W0 W') (hm : ∀ b n D, W.ownsMap Try.prog 3 RV b n D → W'.ownsMap Try.prog 3 RV b n D) (hp : p W' v) : Inv BB W0 B1 B2 B3 (don S j) (a.put (some t) v) W' := by
  obtain ⟨t1, t2, t3, t4, t5, t6⟩ := vp_tmp hv
  have hne : ∀ x : Nat, x < 11 ∨ 34 < x → (a.put (some t) v).eval (.tmp x) = a.eval (.tmp x) := fun x hx => eval_put_ne a t x v (by omega)
  refine ⟨h.base, by simpa [Act.put] using h.size, h.defs, h.keep.trans hk, hb, (hne 1 (by omega)).trans h.s1, (hne 2 (by omega)).trans h.s2, (hne 3 (by omega)).trans h.s3, ?_, ?_, ?_, ?_, ?_⟩
  · intro j' t' p' hv' hS'
    by_cases e : j' = j
    · subst e
      rw [hv] at hv'
      injection hv' with hv'
      injection hv' with e1 e2
      subst e1
      subst e2
      rw [eval_put_eq a t v (by have := h.size; omega)]
      exact hp
    · rw [don_ne e] at hS'
      rw [eval_put_ne a t t' v (fun e2 => by subst e2; exact e ((vp_tmp hv').2.2.1.symm.trans t3))]
      exact vp_keep hk hv' (h.vals j' t' p' hv' hS')
  · intro j' k hi hS'
    have e : j' ≠ j := fun e => by subst e; rw [t6] at hi; cases hi
    rw [don_ne e] at hS'
    rw [don_ne (by omega)]
    exact h.made j' k hi hS'
  · intro h0
    rw [don_ne (by omega)] at h0
    obtain ⟨b, n, D, g1, g2, g3, g4, g5⟩ := h.map h0
    refine ⟨b, n, D, (hne 10 (by omega)).trans g1, g2, hm _ _ _ g3, ?_, fun k hw => ?_⟩
    · have := cnt_don S j hS 46 (by omega)
      omega
    · rcases g5 k hw with ⟨x, x1, x2, j', x3, x4⟩ | ⟨x1, x2⟩
      · exact .inl ⟨x, x1, x2.keep hk, j', x3, by rw [don_ne (fun e => by subst e; rw [t6] at x3; cases x3)]; exact x4⟩
      · exact .inr ⟨x1, fun j' x3 => by rw [don_ne (fun e => by subst e; rw [t6] at x3; cases x3)]; exact x2 j' x3⟩
  · intro h0
    rw [don_ne (by omega)] at h0
    rw [don_ne (by omega), hne 35 (by omega), hne 10 (by omega)]
    exact h.mv h0
  · intro h0
    rw [don_ne (by omega)] at h0
    rw [don_ne (by omega), hne 0 (by omega), hne 35 (by omega)]
    exact h.rs h0
theorem Inv.insert (h : Inv BB W0 B1 B2 B3 S a W) {j : Nat} {k : Int} {v : Value} {b n : Nat} {D : DataW Value} (hi : ins j = some k) (hS : S j = false) (hS0 : S 0 = true) (g1 : a.eval (.tmp 10) = .map (some b)) (g2 : W0.heap.size ≤ b) (g3 : W.ownsMap Try.prog 3 RV b n D) (g4 : n + cnt S 46 ≤ 46) (g5 : ∀ k : Int, (Lit.int .i64 k).wf = true → ((∃ v, (∀ zd, D.atKey (.int .i64 k) zd = .held v) ∧ Good BB W k v ∧ ∃ j, ins j = some k ∧ S j = true) ∨ ((∀ zd, D.atKey (.int .i64 k) zd = zd) ∧ ∀ j, ins j = some k → S j = false))) (hg : Good BB W k v)
    (hm : W'.ownsMap Try.prog 3 RV b (n + 1) (D.put (.int .i64 k) (.held v))) (hgr : W.grownBy W' (some b)) : Inv BB W0 B1 B2 B3 (don S j) a W' := by
  obtain ⟨t1, t2, t3, t4, t5⟩ := ins_idx (BB := BB) hi
  have hk : KeepC W W' := by
    obtain ⟨es, c, hb, _⟩ := g3
    exact KeepC.map hb hgr
  have hD : Maps.IsMap D := by
    obtain ⟨es, c, hb, _, _, e⟩ := g3
    exact ⟨_, e⟩
  refine ⟨h.base, h.size, h.defs, h.keep.trans hk, h.below.grown hgr h.below.size (fun j hj => by cases hj; exact g2), h.s1, h.s2, h.s3, ?_, ?_, ?_, ?_, ?_⟩
  · intro j' t' p' hv' hS'
    rw [don_ne (fun e => by subst e; rw [t4] at hv'; cases hv')] at hS'
    exact vp_keep hk hv' (h.vals j' t' p' hv' hS')
  · intro j' k' hi' hS'
    rw [don_ne (by omega)]
    exact hS0
  · intro _
    refine ⟨b, n + 1, _, g1, g2, hm, ?_, fun k' hw => ?_⟩
    · have := cnt_don S j hS 46 (by omega)
      omega
    · by_cases e : k' = k
      · subst e
        exact .inl ⟨v, fun zd => Maps.atKey_put_same hD (by first | exact trivial | simp [WideAt.IsKeyLit]) _ zd, hg.keep hk, j, hi, don_eq⟩
      · have hne : (Lit.int IntKind.i64 k') ≠ .int .i64 k := fun e2 => e (by injection e2)
        rcases g5 k' hw with ⟨x, x1, x2, j', x3, x4⟩ | ⟨x1, x2⟩
        · refine .inl ⟨x, fun zd => (Maps.atKey_put_other hne _ zd).trans (x1 zd), x2.keep hk, j', x3, ?_⟩
          rw [don_ne (fun e2 => by subst e2; rw [hi] at x3; injection x3 with x3; exact e x3.symm)]
          exact x4
        · refine .inr ⟨fun zd => (Maps.atKey_put_other hne _ zd).trans (x1 zd), fun j' x3 => ?_⟩
          rw [don_ne (fun e2 => by subst e2; rw [hi] at x3; injection x3 with x3; exact e x3.symm)]
          exact x2 j' x3
  · intro h0
    rw [don_ne (by omega)] at h0 ⊢
    exact h.mv h0
  · intro h0
    rw [don_ne (by omega)] at h0 ⊢
    exact h.rs h0
end
theorem wpOp_of {P : Program} {ops : Array Oper} {Q : Exit → Act → World → Prop} {i : Nat} {o : Oper} {a : Act} {w : World} {K : Act → World → Prop} (ho : ops[i]? = some o) (hg : o.guard = none) (h : o.wp P a w K Q) : wpOp P ops Q i K a w := by
  unfold wpOp
  rw [ho]
  have hw : Region.wanted o (yielded ops a.tmps) = true := by simp [Region.wanted, hg]
  simp only [hw, if_true]
  exact .inl h
set_option maxHeartbeats 8000000 in
set_option maxRecDepth 100000 in
theorem always_calls (s : ByteArray) (w : World) : Calls Try.prog 95 #[.string s] w fun e w' => e = .returned (.func (.func 110) #[] #[.pointer (some ⟨w.heap.size, 0, none⟩)]) ∧ w' = w.alloc (.cells #[.string s] 9) := by
  go_enter Try.func95, Try.ntmps95
  go_wp2
  go_ret
  exact ⟨rfl, rfl⟩
theorem enter97 (a : Array Value) (W : World) : (callFunc 95 a).run Try.prog W = .ok (.enter 95 a) W := by kernel_rfl
section
variable {BB : Nat} {W0 W : World} {B1 B2 B3 : Nat} {S : Nat → Bool} {a : Act} {ops : Array Oper} {o : Oper} {Q : Exit → Act → World → Prop}
theorem st_load {j t s B : Nat} {k : Int} {x y : Value} (h : Inv BB W0 B1 B2 B3 S a W) (ho : ops[j]? = some o) (hop : o.op = .load 118 (.tmp s)) (hd : o.dst = some t) (hg : o.guard = none) (hs : a.eval (.tmp s) = .pointer (some ⟨B, 0, none⟩)) (hB : W0.heap[B]? = some (.cells #[x, y] 118 (0, 0))) (hv : vp BB j = some (t, fun W v => Good BB W k v)) (hS : S j = false) (hgd : Good BB W0 k (.agg #[x, y])) : wpOp Try.prog ops Q j (Inv BB W0 B1 B2 B3 (don S j)) a W := by
  have hBW := h.keep B _ _ _ hB
  have hx0 : W.cell? ⟨B, 0, none⟩ = some x := (blk_cell hBW 0).trans rfl
  have hx1 : W.cell? ⟨B, 1, none⟩ = some y := (blk_cell hBW 1).trans rfl
  have hu := Try.underlying118
  have hI := h.value hv hS (KeepC.refl W) h.below (fun _ _ _ hm => hm) (hgd.keep h.keep)
  refine wpOp_of ho hg ?_
  unfold Oper.wp
  simp only [execOp, hop, hs, hd]
  go_simp
  first | exact hI | trace_state
theorem st_call {j t : Nat} {s : ByteArray} (h : Inv BB W0 B1 B2 B3 S a W) (ho : ops[j]? = some o) (hop : o.op = .call { callee := .value (.func 95), args := #[.const (.string s)], argTypes := #[9] }) (hd : o.dst = some t) (hg : o.guard = none) (hv : vp BB j = some (t, fun W v => gfn BB W v (.al s))) (hS : S j = false) : wpOp Try.prog ops Q j (Inv BB W0 B1 B2 B3 (don S j)) a W := by
  refine wpOp_of ho hg ?_
  unfold Oper.wp
  have hrun : (execOp a.eval o).run Try.prog W = .ok (.enter 95 #[.string s]) W := by
    simp only [execOp, hop]
    go_simp
  rw [hrun]
  refine (always_calls s W).mono ?_
  rintro e w' ⟨rfl, rfl⟩
  rw [hd]
  exact h.value hv hS (KeepC.alloc W _) (h.below.alloc h.below.size _) (fun _ _ _ hm => hm.alloc _) ⟨W.heap.size, Nat.le_trans h.base h.below.size, rfl, Go.heap_alloc_new W _⟩
theorem st_build {j t : Nat} {k : Int} {F : Fn} {xs ys : Array Value} {x : Operand} {tk : ByteArray} (h : Inv BB W0 B1 B2 B3 S a W) (ho : ops[j]? = some o) (hop : o.op = .build 118 #[(0, .const (.string tk)), (1, x)]) (hd : o.dst = some t) (hg : o.guard = none) (hx : a.eval x = .func F xs ys) (hv : vp BB j = some (t, fun W v => Good BB W k v)) (hS : S j = false) (hgd : Good BB W k (.agg #[.string tk, .func F xs ys])) : wpOp Try.prog ops Q j (Inv BB W0 B1 B2 B3 (don S j)) a W := by
  have hu := Try.underlying118
  have hI := h.value hv hS (KeepC.refl W) h.below (fun _ _ _ hm => hm) hgd
  refine wpOp_of ho hg ?_
  unfold Oper.wp
  have hrun : (execOp a.eval o).run Try.prog W = .ok (.value (.agg #[.string tk, .func F xs ys])) W := by
    have hc : ∀ v, a.eval (.const v) = v := fun _ => rfl
    generalize a.eval = ρ at hx hc
    simp only [execOp, hop]
    go_simp
  rw [hrun]
  show Inv BB W0 B1 B2 B3 (don S j) (a.put o.dst _) W
  rw [hd]
  exact hI
theorem st_ins {j t jv : Nat} {k : Int} (h : Inv BB W0 B1 B2 B3 S a W) (ho : ops[j]? = some o) (hop : o.op = .insert 119 (.tmp 10) (.const (.int .i64 k)) (.tmp t)) (hd : o.dst = none) (hg : o.guard = none) (hi : ins j = some k) (hS : S j = false) (hS0 : S 0 = true) (hv : vp BB jv = some (t, fun W v => Good BB W k v)) (hSv : S jv = true) : wpOp Try.prog ops Q j (Inv BB W0 B1 B2 B3 (don S j)) a W := by
  obtain ⟨b, n, D, g1, g2, g3, g4, g5⟩ := h.map hS0
  have hgd := h.vals jv t _ hv hSv
  obtain ⟨t1, t2, t3, t4, t5⟩ := ins_idx (BB := BB) hi
  have hkey : keyOf Try.prog 3 (.int .i64 k) = some (.int .i64 k) := Maps.keyOf_int_mk Try.underlying3 t5
  obtain ⟨w', hrun, r1, r2⟩ := g3.update (Maps.int_keyed Try.underlying3) Try.underlying119 (by unfold maxLen; omega) hkey (val := a.eval (.tmp t)) (ps := []) rfl
  refine wpOp_of ho hg ?_
  unfold Oper.wp
  simp [execOp, hop, g1, hrun, Result.andThen, BigFrame.eval_const]
  show Inv BB W0 B1 B2 B3 (don S j) (a.put o.dst undef) w'
  rw [hd]
  exact h.insert hi hS hS0 g1 g2 g3 g4 g5 hgd r1 r2
end
theorem cnt_max (S : Nat → Bool) : ∀ n, cnt S n ≤ n
  | 0 => Nat.le_refl _
  | n + 1 => by
    have := cnt_max S n
    simp only [cnt]
    split <;> omega
theorem gk_ins {k : Int} (h : gk k ≠ none) : ∃ j, ins j = some k := by
  unfold gk at h
  repeat' split at h
  all_goals first
    | exact absurd rfl h
    | (rename_i hk; rcases hk with rfl | rfl | rfl | rfl | rfl <;> first | exact ⟨2, rfl⟩ | exact ⟨4, rfl⟩ | exact ⟨6, rfl⟩ | exact ⟨8, rfl⟩ | exact ⟨10, rfl⟩)
    | (rename_i hk; rcases hk with rfl | rfl | rfl | rfl <;> first | exact ⟨12, rfl⟩ | exact ⟨14, rfl⟩ | exact ⟨16, rfl⟩ | exact ⟨18, rfl⟩)
    | (rename_i hk; rcases hk with rfl | rfl <;> first | exact ⟨35, rfl⟩ | exact ⟨37, rfl⟩)
    | (rename_i hk; subst hk; first | exact ⟨21, rfl⟩ | exact ⟨23, rfl⟩ | exact ⟨25, rfl⟩ | exact ⟨27, rfl⟩ | exact ⟨30, rfl⟩ | exact ⟨33, rfl⟩ | exact ⟨40, rfl⟩ | exact ⟨43, rfl⟩)
section
variable {BB : Nat} {W0 W : World} {B1 B2 B3 : Nat} {S : Nat → Bool} {a : Act} {ops : Array Oper} {o : Oper} {Q : Exit → Act → World → Prop}
theorem st_make (h : Inv BB W0 B1 B2 B3 S a W) (ho : ops[0]? = some o) (hop : o.op = .makeMap 119 none) (hd : o.dst = some 10) (hg : o.guard = none) (hS : S 0 = false) : wpOp Try.prog ops Q 0 (Inv BB W0 B1 B2 B3 (don S 0)) a W := by
  have hmm := @run_makeMap Try.prog
  refine wpOp_of ho hg ?_
  have hrun : (execOp a.eval o).run Try.prog W = .ok (.value (.map (some W.heap.size))) (W.alloc (.map #[] 0)) := by
    simp only [execOp, hop]
    go_simp
  unfold Oper.wp
  rw [hrun]
  show Inv BB W0 B1 B2 B3 (don S 0) (a.put o.dst _) _
  rw [hd]
  have hno : ∀ j k, ins j = some k → S j = false := fun j k hi => by
    cases hj : S j with
    | false => rfl
    | true => have := h.made j k hi hj; rw [hS] at this; cases this
  have h44 : S 44 = false := by
    cases hj : S 44 with
    | false => rfl
    | true => have := (h.mv hj).1; rw [hS] at this; cases this
  have h45 : S 45 = false := by
    cases hj : S 45 with
    | false => rfl
    | true => have := (h.rs hj).1; rw [h44] at this; cases this
  have hne : ∀ x : Nat, x ≠ 10 → (a.put (some 10) (.map (some W.heap.size))).eval (.tmp x) = a.eval (.tmp x) := fun x hx => eval_put_ne a 10 x _ (by omega)
  refine ⟨h.base, by simpa [Act.put] using h.size, h.defs, h.keep.trans (KeepC.alloc W _), h.below.alloc h.below.size _, (hne 1 (by omega)).trans h.s1, (hne 2 (by omega)).trans h.s2, (hne 3 (by omega)).trans h.s3, ?_, ?_, ?_, ?_, ?_⟩
  · intro j t p hv hSj
    obtain ⟨t1, t2, t3, t4, t5, t6⟩ := vp_tmp hv
    rw [don_ne (by omega)] at hSj
    rw [hne t (by omega)]
    exact vp_keep (KeepC.alloc W _) hv (h.vals j t p hv hSj)
  · intro j k hi hSj
    exact don_eq
  · intro _
    refine ⟨W.heap.size, 0, .map [], eval_put_eq a 10 _ (by have := h.size; omega), h.below.size, World.ownsMap_made _ _ _ _, by have := cnt_max (don S 0) 46; omega, fun k hw => .inr ⟨fun zd => rfl, fun j hi => ?_⟩⟩
    rw [don_ne (by have := ins_idx (BB := BB) hi; omega)]
    exact hno j k hi
  · intro h0
    rw [don_ne (by omega), h44] at h0
    cases h0
  · intro h0
    rw [don_ne (by omega), h45] at h0
    cases h0
theorem st_move (h : Inv BB W0 B1 B2 B3 S a W) (ho : ops[44]? = some o) (hop : o.op = .move (.tmp 10)) (hd : o.dst = some 35) (hg : o.guard = none) (hS : S 44 = false) (hS0 : S 0 = true) : wpOp Try.prog ops Q 44 (Inv BB W0 B1 B2 B3 (don S 44)) a W := by
  refine wpOp_of ho hg ?_
  have hrun : (execOp a.eval o).run Try.prog W = .ok (.value (a.eval (.tmp 10))) W := by
    simp only [execOp, hop]
    go_simp
  unfold Oper.wp
  rw [hrun]
  show Inv BB W0 B1 B2 B3 (don S 44) (a.put o.dst _) _
  rw [hd]
  have h45 : S 45 = false := by
    cases hj : S 45 with
    | false => rfl
    | true => have := (h.rs hj).1; rw [hS] at this; cases this
  have hne : ∀ x : Nat, x ≠ 35 → (a.put (some 35) (a.eval (.tmp 10))).eval (.tmp x) = a.eval (.tmp x) := fun x hx => eval_put_ne a 35 x _ (by omega)
  refine ⟨h.base, by simpa [Act.put] using h.size, h.defs, h.keep, h.below, (hne 1 (by omega)).trans h.s1, (hne 2 (by omega)).trans h.s2, (hne 3 (by omega)).trans h.s3, ?_, ?_, ?_, ?_, ?_⟩
  · intro j t p hv hSj
    obtain ⟨t1, t2, t3, t4, t5, t6⟩ := vp_tmp hv
    rw [don_ne (by omega)] at hSj
    rw [hne t (by omega)]
    exact h.vals j t p hv hSj
  · intro j k hi hSj
    rw [don_ne (by omega)]
    exact hS0
  · intro h0
    obtain ⟨b, n, D, g1, g2, g3, g4, g5⟩ := h.map hS0
    refine ⟨b, n, D, (hne 10 (by omega)).trans g1, g2, g3, by have := cnt_don S 44 hS 46 (by omega); omega, fun k hw => ?_⟩
    rcases g5 k hw with ⟨x, x1, x2, j', x3, x4⟩ | ⟨x1, x2⟩
    · exact .inl ⟨x, x1, x2, j', x3, by rw [don_ne (by have := ins_idx (BB := BB) x3; omega)]; exact x4⟩
    · exact .inr ⟨x1, fun j' x3 => by rw [don_ne (by have := ins_idx (BB := BB) x3; omega)]; exact x2 j' x3⟩
  · intro _
    rw [don_ne (by omega)]
    exact ⟨hS0, by rw [eval_put_eq a 35 _ (by have := h.size; omega), hne 10 (by omega)]⟩
  · intro h0
    rw [don_ne (by omega), h45] at h0
    cases h0
theorem st_res (h : Inv BB W0 B1 B2 B3 S a W) (ho : ops[45]? = some o) (hop : o.op = .assign (.tmp 35)) (hd : o.dst = some 0) (hg : o.guard = none) (hS : S 45 = false) (hS44 : S 44 = true) : wpOp Try.prog ops Q 45 (Inv BB W0 B1 B2 B3 (don S 45)) a W := by
  refine wpOp_of ho hg ?_
  have hrun : (execOp a.eval o).run Try.prog W = .ok (.value (a.eval (.tmp 35))) W := by
    simp only [execOp, hop]
    go_simp
  unfold Oper.wp
  rw [hrun]
  show Inv BB W0 B1 B2 B3 (don S 45) (a.put o.dst _) _
  rw [hd]
  have hS0 := (h.mv hS44).1
  have hne : ∀ x : Nat, x ≠ 0 → (a.put (some 0) (a.eval (.tmp 35))).eval (.tmp x) = a.eval (.tmp x) := fun x hx => eval_put_ne a 0 x _ (by omega)
  refine ⟨h.base, by simpa [Act.put] using h.size, h.defs, h.keep, h.below, (hne 1 (by omega)).trans h.s1, (hne 2 (by omega)).trans h.s2, (hne 3 (by omega)).trans h.s3, ?_, ?_, ?_, ?_, ?_⟩
  · intro j t p hv hSj
    obtain ⟨t1, t2, t3, t4, t5, t6⟩ := vp_tmp hv
    rw [don_ne (by omega)] at hSj
    rw [hne t (by omega)]
    exact h.vals j t p hv hSj
  · intro j k hi hSj
    rw [don_ne (by omega)]
    exact hS0
  · intro h0
    obtain ⟨b, n, D, g1, g2, g3, g4, g5⟩ := h.map hS0
    refine ⟨b, n, D, (hne 10 (by omega)).trans g1, g2, g3, by have := cnt_don S 45 hS 46 (by omega); omega, fun k hw => ?_⟩
    rcases g5 k hw with ⟨x, x1, x2, j', x3, x4⟩ | ⟨x1, x2⟩
    · exact .inl ⟨x, x1, x2, j', x3, by rw [don_ne (by have := ins_idx (BB := BB) x3; omega)]; exact x4⟩
    · exact .inr ⟨x1, fun j' x3 => by rw [don_ne (by have := ins_idx (BB := BB) x3; omega)]; exact x2 j' x3⟩
  · intro _
    rw [don_ne (by omega), hne 35 (by omega), hne 10 (by omega)]
    exact h.mv hS44
  · intro _
    rw [don_ne (by omega)]
    exact ⟨hS44, by rw [eval_put_eq a 0 _ (by have := h.size; omega), hne 35 (by omega)]⟩
end
end Go.Proofs.Ytfppdlcgipnacaa.E

/- types.effects: its contract. -/
namespace Go.Proofs.Ytfppdlcgipnacaa.E
open Go.RowKit Go.Proofs.YtfppdlcgipnacaaH
attribute [local go_sem] run_store_func
set_option linter.unusedVariables false
theorem below_alloc {w W : World} (h : Below w.heap.size w W) (o : Obj) : Below w.heap.size w (W.alloc o) := h.alloc h.size o
theorem below_drew {B : Nat} {w W : World} (h : Below B w W) : Below B w W.drew := h.drew
theorem alloc_at {w W : World} {o : Obj} {n : Nat} (hn : W.heap.size = n) : (W.alloc o).heap[n]? = some o := by
  subst hn
  exact Go.heap_alloc_new W o
theorem alloc_sz {W : World} {o : Obj} {n : Nat} (hn : W.heap.size = n) : (W.alloc o).heap.size = n + 1 := by rw [World.size_alloc, hn]
theorem alloc_old {W : World} {o o2 : Obj} {n m : Nat} (hn : W.heap.size = n) (hm : m < n) (h : W.heap[m]? = some o2) : (W.alloc o).heap[m]? = some o2 := by
  rw [Below.heap_alloc _ _ _ (by omega)]
  exact h
theorem alloc6 (w : World) (o0 o1 o2 o3 o4 o5 : Obj) (W0 : World) (e : W0 = (((((w.alloc o0).alloc o1).alloc o2).alloc o3).alloc o4).alloc o5) : W0.heap[w.heap.size]? = some o0 ∧ W0.heap[w.heap.size + 1]? = some o1 ∧ W0.heap[w.heap.size + 1 + 1]? = some o2 ∧ W0.heap[w.heap.size + 1 + 1 + 1]? = some o3 ∧ W0.heap[w.heap.size + 1 + 1 + 1 + 1]? = some o4 ∧ W0.heap[w.heap.size + 1 + 1 + 1 + 1 + 1]? = some o5 := by
  subst e
  have e0 : w.heap.size = w.heap.size := rfl
  have e1 := alloc_sz (o := o0) e0
  have e2 := alloc_sz (o := o1) e1
  have e3 := alloc_sz (o := o2) e2
  have e4 := alloc_sz (o := o3) e3
  have e5 := alloc_sz (o := o4) e4
  refine ⟨?_, ?_, ?_, ?_, ?_, Go.Proofs.Ytfppdlcgipnacaa.E.alloc_at (w := w) e5⟩
  · exact alloc_old e5 (by omega) (alloc_old e4 (by omega) (alloc_old e3 (by omega) (alloc_old e2 (by omega) (alloc_old e1 (by omega) (alloc_at (w := w) e0)))))
  · exact alloc_old e5 (by omega) (alloc_old e4 (by omega) (alloc_old e3 (by omega) (alloc_old e2 (by omega) (alloc_at (w := w) e1))))
  · exact alloc_old e5 (by omega) (alloc_old e4 (by omega) (alloc_old e3 (by omega) (alloc_at (w := w) e2)))
  · exact alloc_old e5 (by omega) (alloc_old e4 (by omega) (alloc_at (w := w) e3))
  · exact alloc_old e5 (by omega) (alloc_at (w := w) e4)
set_option maxHeartbeats 8000000 in
set_option maxRecDepth 100000 in
theorem effects_calls (w : World) : Calls Try.prog 91 #[] w fun e w' => ∃ (b n : Nat) (D : DataW Value), e = .returned (.map (some b)) ∧ w.heap.size ≤ b ∧ Below w.heap.size w w' ∧ w'.ownsMap Try.prog 3 RV b n D ∧ ∀ k : Int, (Lit.int .i64 k).wf = true → ((∃ v, (∀ zd, D.atKey (.int .i64 k) zd = .held v) ∧ Good w.heap.size w' k v) ∨ (gk k = none ∧ ∀ zd, D.atKey (.int .i64 k) zd = zd)) := by
  have hu118 := Try.underlying118
  go_enter Try.func91, Try.ntmps91
  go_wp2
  have HW : ∀ W0 : World, W0 = ((((((w.alloc (.cells #[.string ⟨#[105]⟩] 9)).alloc (.cells #[.string ⟨#[]⟩] 9)).alloc (.cells #[.string ⟨#[]⟩, .func (.func 110) #[] #[.pointer (some ⟨w.heap.size, 0, none⟩)]] 118)).alloc (.cells #[.string ⟨#[105]⟩, .func (.func 110) #[] #[.pointer (some ⟨w.heap.size + 1, 0, none⟩)]] 118)).alloc (.cells #[.string ⟨#[98]⟩] 9)).alloc (.cells #[.string ⟨#[98, 98]⟩, .func (.func 110) #[] #[.pointer (some ⟨w.heap.size + 1 + 1 + 1 + 1, 0, none⟩)]] 118)) → Below w.heap.size w W0 ∧ W0.heap[w.heap.size]? = some (.cells #[.string ⟨#[105]⟩] 9 (0, 0)) ∧ W0.heap[w.heap.size + 1]? = some (.cells #[.string ⟨#[]⟩] 9 (0, 0)) ∧ W0.heap[w.heap.size + 1 + 1]? = some (.cells #[.string ⟨#[]⟩, .func (.func 110) #[] #[.pointer (some ⟨w.heap.size, 0, none⟩)]] 118 (0, 0)) ∧ W0.heap[w.heap.size + 1 + 1 + 1]? = some (.cells #[.string ⟨#[105]⟩, .func (.func 110) #[] #[.pointer (some ⟨w.heap.size + 1, 0, none⟩)]] 118 (0, 0)) ∧ W0.heap[w.heap.size + 1 + 1 + 1 + 1]? = some (.cells #[.string ⟨#[98]⟩] 9 (0, 0)) ∧ W0.heap[w.heap.size + 1 + 1 + 1 + 1 + 1]? = some (.cells #[.string ⟨#[98, 98]⟩, .func (.func 110) #[] #[.pointer (some ⟨w.heap.size + 1 + 1 + 1 + 1, 0, none⟩)]] 118 (0, 0)) := by
    rintro W0 e
    refine ⟨?_, alloc6 w _ _ _ _ _ _ W0 e⟩
    subst e
    repeat (first | exact Below.refl _ _ | refine below_alloc ?_ _)
  obtain ⟨qb, q0, q1, q2, q3, q4, q5⟩ := HW _ rfl
  clear HW
  generalize ((((((w.alloc (.cells #[.string ⟨#[105]⟩] 9)).alloc (.cells #[.string ⟨#[]⟩] 9)).alloc (.cells #[.string ⟨#[]⟩, .func (.func 110) #[] #[.pointer (some ⟨w.heap.size, 0, none⟩)]] 118)).alloc (.cells #[.string ⟨#[105]⟩, .func (.func 110) #[] #[.pointer (some ⟨w.heap.size + 1, 0, none⟩)]] 118)).alloc (.cells #[.string ⟨#[98]⟩] 9)).alloc (.cells #[.string ⟨#[98, 98]⟩, .func (.func 110) #[] #[.pointer (some ⟨w.heap.size + 1 + 1 + 1 + 1, 0, none⟩)]] 118)) = W0 at *
  refine wp_region_inv (by kernel_rfl) (Inv w.heap.size W0 (w.heap.size + 1 + 1) (w.heap.size + 1 + 1 + 1) (w.heap.size + 1 + 1 + 1 + 1 + 1)) ?_ ?_ ?_ ?_
  · exact back_of (by kernel_rfl)
  · intro S i o a W ho hS ha hI
    have hlt : i < 46 := (Array.getElem?_eq_some_iff.1 ho).1
    have hcs : i = 0 ∨ i = 1 ∨ i = 2 ∨ i = 3 ∨ i = 4 ∨ i = 5 ∨ i = 6 ∨ i = 7 ∨ i = 8 ∨ i = 9 ∨ i = 10 ∨ i = 11 ∨ i = 12 ∨ i = 13 ∨ i = 14 ∨ i = 15 ∨ i = 16 ∨ i = 17 ∨ i = 18 ∨ i = 19 ∨ i = 20 ∨ i = 21 ∨ i = 22 ∨ i = 23 ∨ i = 24 ∨ i = 25 ∨ i = 26 ∨ i = 27 ∨ i = 28 ∨ i = 29 ∨ i = 30 ∨ i = 31 ∨ i = 32 ∨ i = 33 ∨ i = 34 ∨ i = 35 ∨ i = 36 ∨ i = 37 ∨ i = 38 ∨ i = 39 ∨ i = 40 ∨ i = 41 ∨ i = 42 ∨ i = 43 ∨ i = 44 ∨ i = 45 := by omega
    rcases hcs with rfl | rfl | rfl | rfl | rfl | rfl | rfl | rfl | rfl | rfl | rfl | rfl | rfl | rfl | rfl | rfl | rfl | rfl | rfl | rfl | rfl | rfl | rfl | rfl | rfl | rfl | rfl | rfl | rfl | rfl | rfl | rfl | rfl | rfl | rfl | rfl | rfl | rfl | rfl | rfl | rfl | rfl | rfl | rfl | rfl | rfl
    · obtain rfl := Option.some.inj ho
      exact st_make hI ho rfl rfl rfl hS
    · obtain rfl := Option.some.inj ho
      exact st_load hI ho rfl rfl rfl hI.s1 q2 rfl hS ⟨_, _, _, rfl, rfl, ⟨_, Nat.le_refl _, rfl, q0⟩⟩
    · obtain rfl := Option.some.inj ho
      exact st_ins hI ho rfl rfl rfl rfl hS (ha ⟨0, .data⟩ (by simp) rfl) (jv := 1) rfl (ha ⟨1, .data⟩ (by simp) rfl)
    · obtain rfl := Option.some.inj ho
      exact st_load hI ho rfl rfl rfl hI.s1 q2 rfl hS ⟨_, _, _, rfl, rfl, ⟨_, Nat.le_refl _, rfl, q0⟩⟩
    · obtain rfl := Option.some.inj ho
      exact st_ins hI ho rfl rfl rfl rfl hS (ha ⟨0, .data⟩ (by simp) rfl) (jv := 3) rfl (ha ⟨3, .data⟩ (by simp) rfl)
    · obtain rfl := Option.some.inj ho
      exact st_load hI ho rfl rfl rfl hI.s1 q2 rfl hS ⟨_, _, _, rfl, rfl, ⟨_, Nat.le_refl _, rfl, q0⟩⟩
    · obtain rfl := Option.some.inj ho
      exact st_ins hI ho rfl rfl rfl rfl hS (ha ⟨0, .data⟩ (by simp) rfl) (jv := 5) rfl (ha ⟨5, .data⟩ (by simp) rfl)
    · obtain rfl := Option.some.inj ho
      exact st_load hI ho rfl rfl rfl hI.s1 q2 rfl hS ⟨_, _, _, rfl, rfl, ⟨_, Nat.le_refl _, rfl, q0⟩⟩
    · obtain rfl := Option.some.inj ho
      exact st_ins hI ho rfl rfl rfl rfl hS (ha ⟨0, .data⟩ (by simp) rfl) (jv := 7) rfl (ha ⟨7, .data⟩ (by simp) rfl)
    · obtain rfl := Option.some.inj ho
      exact st_load hI ho rfl rfl rfl hI.s1 q2 rfl hS ⟨_, _, _, rfl, rfl, ⟨_, Nat.le_refl _, rfl, q0⟩⟩
    · obtain rfl := Option.some.inj ho
      exact st_ins hI ho rfl rfl rfl rfl hS (ha ⟨0, .data⟩ (by simp) rfl) (jv := 9) rfl (ha ⟨9, .data⟩ (by simp) rfl)
    · obtain rfl := Option.some.inj ho
      exact st_load hI ho rfl rfl rfl hI.s2 q3 rfl hS ⟨_, _, _, rfl, rfl, ⟨_, by omega, rfl, q1⟩⟩
    · obtain rfl := Option.some.inj ho
      exact st_ins hI ho rfl rfl rfl rfl hS (ha ⟨0, .data⟩ (by simp) rfl) (jv := 11) rfl (ha ⟨11, .data⟩ (by simp) rfl)
    · obtain rfl := Option.some.inj ho
      exact st_load hI ho rfl rfl rfl hI.s2 q3 rfl hS ⟨_, _, _, rfl, rfl, ⟨_, by omega, rfl, q1⟩⟩
    · obtain rfl := Option.some.inj ho
      exact st_ins hI ho rfl rfl rfl rfl hS (ha ⟨0, .data⟩ (by simp) rfl) (jv := 13) rfl (ha ⟨13, .data⟩ (by simp) rfl)
    · obtain rfl := Option.some.inj ho
      exact st_load hI ho rfl rfl rfl hI.s2 q3 rfl hS ⟨_, _, _, rfl, rfl, ⟨_, by omega, rfl, q1⟩⟩
    · obtain rfl := Option.some.inj ho
      exact st_ins hI ho rfl rfl rfl rfl hS (ha ⟨0, .data⟩ (by simp) rfl) (jv := 15) rfl (ha ⟨15, .data⟩ (by simp) rfl)
    · obtain rfl := Option.some.inj ho
      exact st_load hI ho rfl rfl rfl hI.s2 q3 rfl hS ⟨_, _, _, rfl, rfl, ⟨_, by omega, rfl, q1⟩⟩
    · obtain rfl := Option.some.inj ho
      exact st_ins hI ho rfl rfl rfl rfl hS (ha ⟨0, .data⟩ (by simp) rfl) (jv := 17) rfl (ha ⟨17, .data⟩ (by simp) rfl)
    · obtain rfl := Option.some.inj ho
      exact st_call hI ho rfl rfl rfl rfl hS
    · obtain rfl := Option.some.inj ho
      obtain ⟨p, hpB, hp, hc⟩ := hI.vals 19 20 _ rfl (ha ⟨19, .data⟩ (by simp) rfl); exact st_build hI ho rfl rfl rfl hp rfl hS ⟨_, _, _, rfl, rfl, ⟨p, hpB, rfl, hc⟩⟩
    · obtain rfl := Option.some.inj ho
      exact st_ins hI ho rfl rfl rfl rfl hS (ha ⟨0, .data⟩ (by simp) rfl) (jv := 20) rfl (ha ⟨20, .data⟩ (by simp) rfl)
    · obtain rfl := Option.some.inj ho
      exact st_build hI ho rfl rfl rfl rfl rfl hS ⟨_, _, _, rfl, rfl, rfl⟩
    · obtain rfl := Option.some.inj ho
      exact st_ins hI ho rfl rfl rfl rfl hS (ha ⟨0, .data⟩ (by simp) rfl) (jv := 22) rfl (ha ⟨22, .data⟩ (by simp) rfl)
    · obtain rfl := Option.some.inj ho
      exact st_build hI ho rfl rfl rfl rfl rfl hS ⟨_, _, _, rfl, rfl, rfl⟩
    · obtain rfl := Option.some.inj ho
      exact st_ins hI ho rfl rfl rfl rfl hS (ha ⟨0, .data⟩ (by simp) rfl) (jv := 24) rfl (ha ⟨24, .data⟩ (by simp) rfl)
    · obtain rfl := Option.some.inj ho
      exact st_build hI ho rfl rfl rfl rfl rfl hS ⟨_, _, _, rfl, rfl, rfl⟩
    · obtain rfl := Option.some.inj ho
      exact st_ins hI ho rfl rfl rfl rfl hS (ha ⟨0, .data⟩ (by simp) rfl) (jv := 26) rfl (ha ⟨26, .data⟩ (by simp) rfl)
    · obtain rfl := Option.some.inj ho
      exact st_call hI ho rfl rfl rfl rfl hS
    · obtain rfl := Option.some.inj ho
      obtain ⟨p, hpB, hp, hc⟩ := hI.vals 28 25 _ rfl (ha ⟨28, .data⟩ (by simp) rfl); exact st_build hI ho rfl rfl rfl hp rfl hS ⟨_, _, _, rfl, rfl, ⟨p, hpB, rfl, hc⟩⟩
    · obtain rfl := Option.some.inj ho
      exact st_ins hI ho rfl rfl rfl rfl hS (ha ⟨0, .data⟩ (by simp) rfl) (jv := 29) rfl (ha ⟨29, .data⟩ (by simp) rfl)
    · obtain rfl := Option.some.inj ho
      exact st_call hI ho rfl rfl rfl rfl hS
    · obtain rfl := Option.some.inj ho
      obtain ⟨p, hpB, hp, hc⟩ := hI.vals 31 27 _ rfl (ha ⟨31, .data⟩ (by simp) rfl); exact st_build hI ho rfl rfl rfl hp rfl hS ⟨_, _, _, rfl, rfl, ⟨p, hpB, rfl, hc⟩⟩
    · obtain rfl := Option.some.inj ho
      exact st_ins hI ho rfl rfl rfl rfl hS (ha ⟨0, .data⟩ (by simp) rfl) (jv := 32) rfl (ha ⟨32, .data⟩ (by simp) rfl)
    · obtain rfl := Option.some.inj ho
      exact st_load hI ho rfl rfl rfl hI.s3 q5 rfl hS ⟨_, _, _, rfl, rfl, ⟨_, by omega, rfl, q4⟩⟩
    · obtain rfl := Option.some.inj ho
      exact st_ins hI ho rfl rfl rfl rfl hS (ha ⟨0, .data⟩ (by simp) rfl) (jv := 34) rfl (ha ⟨34, .data⟩ (by simp) rfl)
    · obtain rfl := Option.some.inj ho
      exact st_load hI ho rfl rfl rfl hI.s3 q5 rfl hS ⟨_, _, _, rfl, rfl, ⟨_, by omega, rfl, q4⟩⟩
    · obtain rfl := Option.some.inj ho
      exact st_ins hI ho rfl rfl rfl rfl hS (ha ⟨0, .data⟩ (by simp) rfl) (jv := 36) rfl (ha ⟨36, .data⟩ (by simp) rfl)
    · obtain rfl := Option.some.inj ho
      exact st_call hI ho rfl rfl rfl rfl hS
    · obtain rfl := Option.some.inj ho
      obtain ⟨p, hpB, hp, hc⟩ := hI.vals 38 31 _ rfl (ha ⟨38, .data⟩ (by simp) rfl); exact st_build hI ho rfl rfl rfl hp rfl hS ⟨_, _, _, rfl, rfl, ⟨p, hpB, rfl, hc⟩⟩
    · obtain rfl := Option.some.inj ho
      exact st_ins hI ho rfl rfl rfl rfl hS (ha ⟨0, .data⟩ (by simp) rfl) (jv := 39) rfl (ha ⟨39, .data⟩ (by simp) rfl)
    · obtain rfl := Option.some.inj ho
      exact st_call hI ho rfl rfl rfl rfl hS
    · obtain rfl := Option.some.inj ho
      obtain ⟨p, hpB, hp, hc⟩ := hI.vals 41 33 _ rfl (ha ⟨41, .data⟩ (by simp) rfl); exact st_build hI ho rfl rfl rfl hp rfl hS ⟨_, _, _, rfl, rfl, ⟨p, hpB, rfl, hc⟩⟩
    · obtain rfl := Option.some.inj ho
      exact st_ins hI ho rfl rfl rfl rfl hS (ha ⟨0, .data⟩ (by simp) rfl) (jv := 42) rfl (ha ⟨42, .data⟩ (by simp) rfl)
    · obtain rfl := Option.some.inj ho
      exact st_move hI ho rfl rfl rfl hS (ha ⟨0, .data⟩ (by simp) rfl)
    · obtain rfl := Option.some.inj ho
      exact st_res hI ho rfl rfl rfl hS (ha ⟨44, .data⟩ (by simp) rfl)
  · intro S a W hall hI
    have hi : ∀ i, i < 46 → S i = true := hall
    obtain ⟨b, n, D, g1, g2, g3, g4, g5⟩ := hI.map (hi 0 (by omega))
    have hr : a.eval (.tmp 0) = .map (some b) := by rw [(hI.rs (hi 45 (by omega))).2, (hI.mv (hi 44 (by omega))).2, g1]
    have hdf := hI.defs
    have hB : Below w.heap.size w W := qb.trans (Below.mono hI.below qb.size)
    have hfin : ∀ k : Int, (Lit.int .i64 k).wf = true → ((∃ v, (∀ zd, D.atKey (.int .i64 k) zd = .held v) ∧ Good w.heap.size W k v) ∨ (gk k = none ∧ ∀ zd, D.atKey (.int .i64 k) zd = zd)) := fun k hw => by
      rcases g5 k hw with ⟨v, x1, x2, _⟩ | ⟨x1, x2⟩
      · exact .inl ⟨v, x1, x2⟩
      · refine .inr ⟨Classical.byContradiction fun hne => ?_, x1⟩
        obtain ⟨j, hj⟩ := gk_ins hne
        have h1 := x2 j hj
        rw [hi j (by have := ins_idx (BB := 0) hj; omega)] at h1
        cases h1
    rename_i hK
    refine hK a W ?_
    refine wp_ret ?_
    show bodyPost Try.prog Try.f91 _ .ret a W
    refine bodyPost_ret (results_tmp (show Try.f91.results = #[.tmp 0] from rfl) _ _ _) hdf ?_
    exact ⟨b, n, D, congrArg Ending.returned hr, Nat.le_trans qb.size g2, hB, g3, hfin⟩
  · refine ⟨qb.size, rfl, rfl, KeepC.below (below_drew (Below.refl _ _)), below_drew (Below.refl _ _), rfl, rfl, rfl, fun _ _ _ _ h => (Bool.noConfusion h), fun _ _ _ h => (Bool.noConfusion h), fun h => (Bool.noConfusion h), fun h => (Bool.noConfusion h), fun h => (Bool.noConfusion h)⟩
end Go.Proofs.Ytfppdlcgipnacaa.E

/- types.effects: what its table holds, as the reader of the code takes it. -/
namespace Go.Proofs.Dk
open Go Go.RowKit
set_option linter.unusedVariables false
set_option linter.unusedSimpArgs false
abbrev EGK := Go.Proofs.Ytfppdlcgipnacaa.E.GK
abbrev Egk := Go.Proofs.Ytfppdlcgipnacaa.E.gk
def effF : EGK → DV
  | .al s => .fn (.func 110) [] [.pi [.sc (.string s)]]
  | .dup => .fn (.func 96) [] []
  | .swp => .fn (.func 97) [] []
  | .two => .fn (.func 98) [] []
def effE (p : ByteArray × EGK) : DV := .agg [.sc (.string p.1), effF p.2]
def effKs : List (List Int) := [[1, 11, 13, 15, 17], [12, 14, 16, 18], [2], [3], [4], [5], [6], [7], [8, 9], [10], [20]]
def effVs : List DV := [effE (⟨#[]⟩, .al ⟨#[105]⟩), effE (⟨#[105]⟩, .al ⟨#[]⟩), effE (⟨#[32]⟩, .al ⟨#[]⟩), effE (⟨#[32]⟩, .dup), effE (⟨#[32, 32]⟩, .swp), effE (⟨#[105, 105]⟩, .two), effE (⟨#[105]⟩, .al ⟨#[105]⟩), effE (⟨#[98]⟩, .al ⟨#[98]⟩), effE (⟨#[98, 98]⟩, .al ⟨#[98]⟩), effE (⟨#[98]⟩, .al ⟨#[105]⟩), effE (⟨#[98]⟩, .al ⟨#[]⟩)]
theorem eff_pick (n : Int) : pickD effKs effVs n = (Egk n).map effE := by
  unfold Egk Go.Proofs.Ytfppdlcgipnacaa.E.gk
  simp only [effKs, effVs, pickD, List.any_cons, List.any_nil, Bool.or_false, Bool.or_eq_true, beq_iff_eq, apply_ite (Option.map effE), Option.map_some, Option.map_none]
theorem eff_wf {n : Int} (h : Egk n ≠ none) : (Lit.int .i64 n).wf = true := by
  obtain ⟨j, hj⟩ := Go.Proofs.Ytfppdlcgipnacaa.E.gk_ins h
  exact (Go.Proofs.Ytfppdlcgipnacaa.E.ins_idx (BB := 0) hj).2.2.2.2
/-- The table that stands in memory. -/
theorem eff_tab {w : World} {B b n : Nat} {D : DataW Value} (h : w.ownsMap Try.prog 3 Go.Proofs.Ytfppdlcgipnacaa.E.RV b n D) (hk : ∀ k : Int, (Lit.int .i64 k).wf = true → ((∃ v, (∀ zd, D.atKey (.int .i64 k) zd = .held v) ∧ Go.Proofs.Ytfppdlcgipnacaa.E.Good B w k v) ∨ (Egk k = none ∧ ∀ zd, D.atKey (.int .i64 k) zd = zd))) :
    ∃ es clock val, w.heap[b]? = some (.map es clock) ∧ TabE effKs effVs val es.toList ∧ ∀ n d, pickD effKs effVs n = some d → Go.Proofs.Ytfppdlcgipnacaa.E.Good B w n (val n) := by
  obtain ⟨es, clock, hb, F, _, rfl⟩ := h
  have hu := Try.underlying3
  have key : ∀ e ∈ es.toList, ∃ n, e.key = .int .i64 n ∧ (Lit.int .i64 n).wf = true := by
    intro e he
    obtain ⟨y, hy⟩ := F.reads e he
    have h1 := WideElems.rd_key hy
    revert h1
    generalize e.key = q
    intro h1
    cases q <;> simp [keyOf, hu, mapKey] at h1
    obtain ⟨⟨rfl, h2⟩, _⟩ := h1
    exact ⟨_, rfl, h2⟩
  have one : ∀ e ∈ es.toList, ∀ e' ∈ es.toList, e.key = e'.key → e = e' := by
    have hs := ((MapKept.stamped_iff es clock).1 F.stamped).2.2
    intro e he e' he' hee
    obtain ⟨i, hi, rfl⟩ := List.getElem_of_mem he
    obtain ⟨j, hj, rfl⟩ := List.getElem_of_mem he'
    rw [List.pairwise_iff_getElem] at hs
    rcases Nat.lt_trichotomy i j with h | h | h
    · exact absurd hee (hs i j hi hj h)
    · subst h; rfl
    · exact absurd hee.symm (hs j i hj hi h)
  have at_ : ∀ n, (Lit.int .i64 n).wf = true → ((∃ e ∈ es.toList, e.key = .int .i64 n ∧ Go.Proofs.Ytfppdlcgipnacaa.E.Good B w n e.val) ∨ (Egk n = none ∧ ∀ e ∈ es.toList, e.key ≠ .int .i64 n)) := by
    intro n hn
    have hkey : keyOf Try.prog 3 (.int .i64 n) = some (.int .i64 n) := Maps.keyOf_int_mk hu hn
    have hz0 : (zeroT Try.prog 118).isSome = true := by kernel_rfl
    obtain ⟨its, hits⟩ := Option.isSome_iff_exists.1 hz0
    obtain ⟨it, z, hit, hz1, _⟩ := zeroT_ok (I := ⟨fun _ => none, fun _ => False⟩) (w := w) hits
    have hz : (zeroValue 118).run Try.prog w = .ok z w := by simp [zeroValue, typeInfo, Sem.run_bind, hit, hz1]
    rcases Maps.fit_look false (Maps.int_keyed hu) Try.underlying119 hz hb F hkey with ⟨_, h2, h3⟩ | ⟨e0, y, h1, h2, _, h4, h5, _⟩
    · rcases hk n hn with ⟨v, g1, g2⟩ | ⟨g1, g2⟩
      · have := (h3 (.lit (.bool true))).symm.trans (g1 _)
        cases this
      · exact .inr ⟨g1, h2⟩
    · rcases hk n hn with ⟨v, g1, g2⟩ | ⟨g1, g2⟩
      · refine .inl ⟨e0, h1, h2, ?_⟩
        have h6 := (h5 (.lit (.bool true))).symm.trans (g1 _)
        simp only [Go.Proofs.Ytfppdlcgipnacaa.E.RV, Option.some.injEq] at h4
        rw [← h4] at h6
        simp only [DataW.held.injEq] at h6
        rw [h6]
        exact g2
      · have h6 := (h5 (.lit (.bool true))).symm.trans (g2 _)
        simp only [Go.Proofs.Ytfppdlcgipnacaa.E.RV, Option.some.injEq] at h4
        rw [← h4] at h6
        cases h6
  have hex : ∀ n : Int, ∃ v : Value, ∀ e ∈ es.toList, e.key = .int .i64 n → v = e.val := by
    intro n
    by_cases h : ∃ e ∈ es.toList, e.key = .int .i64 n
    · obtain ⟨e, he, hen⟩ := h
      exact ⟨e.val, fun e' he' hen' => by rw [one e he e' he' (hen.trans hen'.symm)]⟩
    · exact ⟨default, fun e he hen => absurd ⟨e, he, hen⟩ h⟩
  obtain ⟨val, hval⟩ := Classical.axiomOfChoice hex
  refine ⟨es, clock, val, hb, ⟨fun e he => ?_, fun e he n hn => ⟨hval n e he hn, ?_⟩, fun n hn => ?_⟩, fun n d hd => ?_⟩
  · obtain ⟨n, hn, _⟩ := key e he
    exact ⟨n, hn⟩
  · obtain ⟨n', hn', hw⟩ := key e he
    rw [hn] at hn'
    cases hn'
    rcases at_ n hw with ⟨e', _, _, t, g, f, hg, _⟩ | ⟨_, h2⟩
    · rw [eff_pick, show Egk n = _ from hg]; rfl
    · exact absurd hn (h2 e he)
  · have hne : Egk n ≠ none := by
      rw [eff_pick] at hn
      intro h0
      rw [h0] at hn
      cases hn
    rcases at_ n (eff_wf hne) with ⟨e, h1, h2, _⟩ | ⟨h1, _⟩
    · exact ⟨e, h1, h2⟩
    · exact absurd h1 hne
  · have hne : Egk n ≠ none := by
      rw [eff_pick] at hd
      intro h0
      rw [h0] at hd
      cases hd
    rcases at_ n (eff_wf hne) with ⟨e, h1, h2, h3⟩ | ⟨h1, _⟩
    · rw [hval n e h1 h2]; exact h3
    · exact absurd h1 hne
def effFS : FS := ⟨⟨[], []⟩, ⟨[.tab effKs effVs], []⟩, Unit, fun _ => ((), ()), fun _ => (), fun _ => some ()⟩
theorem eff_VR {I : In} {w : World} {B : Nat} {p : ByteArray × EGK} {v f : Value} (hv : v = .agg #[.string p.1, f]) (hg : Go.Proofs.Ytfppdlcgipnacaa.E.gfn B w f p.2) (hI : ∀ q, B ≤ q → q < w.heap.size → I.R q) : VR I w (effE p) v := by
  obtain ⟨t, g⟩ := p
  subst hv
  refine .agg _ _ (.one _ _ _ _ (.sc _ rfl) rfl ?_)
  have fin : ∀ {d : DV}, VR I w d f → f.oneCell' = true → CR I w [d] [f] := fun hd ho => .one _ _ _ _ hd ho .nil
  cases g with
  | al s =>
    obtain ⟨q, hqB, rfl, hq⟩ := hg
    refine fin (.fn _ _ _ _ _ .nil (.cons _ _ _ _ (.pi _ ⟨q, 0, none⟩ [.string s] rfl (hI q hqB (Array.getElem?_eq_some_iff.1 hq).1) (fun d hd => ?_) (.one _ _ _ _ (.sc _ rfl) rfl .nil) (fun j u hu => ?_)) .nil)) rfl
    · simp only [List.mem_singleton] at hd
      subst hd
      rfl
    · cases j with
      | zero =>
        simp only [List.getElem?_cons_zero, Option.some.injEq] at hu
        subst hu
        exact (Go.Proofs.Ytfppdlcgipnacaa.E.blk_cell hq 0).trans rfl
      | succ j => simp at hu
  | dup => subst hg; exact fin (.fn _ _ _ _ _ .nil .nil) rfl
  | swp => subst hg; exact fin (.fn _ _ _ _ _ .nil .nil) rfl
  | two => subst hg; exact fin (.fn _ _ _ _ _ .nil .nil) rfl
theorem HR.more {I I' : In} {w w' : World} {H : Heap} (hH : HR I w H) (hι : I'.ι = I.ι) (hR : ∀ b, I'.R b ↔ I.R b ∨ (w.heap.size ≤ b ∧ b < w'.heap.size)) (hw : ∀ b, b < w.heap.size → w'.heap[b]? = w.heap[b]?) (hsz : w.heap.size ≤ w'.heap.size) : HR I' w' H := by
  have hs : Same I I' w w' := ⟨⟨fun b h => (hR b).2 (.inl h), fun b h => hw b (hH.rlt b h)⟩, fun n b h => by rw [hι]; exact h, fun n sz v h => by rw [hι]; exact h⟩
  refine HR.of (fun n b hb => (hH.br hb).keep hs (fun e g h1 h2 => hw g (hH.lt n e g h1 h2).1)) (fun n h => by rw [hι]; exact hH.dom n h) (fun n e b h1 h2 => ?_) (fun n m e e' b h1 h2 h3 h4 => ?_) (fun b h => ?_)
  · rw [hι] at h1
    obtain ⟨k1, k2⟩ := hH.lt n e b h1 h2
    refine ⟨by omega, fun h => ?_⟩
    rcases (hR b).1 h with h | h
    · exact k2 h
    · omega
  · rw [hι] at h1 h2
    exact hH.inj n m e e' b h1 h2 h3 h4
  · rcases (hR b).1 h with h | h
    · have := hH.rlt b h; omega
    · exact h.2
theorem effects_ok : SpecOk Try.prog 91 effFS := by
  intro α I w H A args ρ k r x m hH hA hx hρ h
  obtain ⟨rfl, rfl⟩ : A = [] ∧ m = ⟨[], []⟩ := by
    unfold Tmpl.pr at hx
    split at hx
    · rename_i y m1 hy
      have hl := prT_len hy
      obtain rfl : A = [] := List.eq_nil_of_length_eq_zero hl
      refine ⟨rfl, ?_⟩
      simp only [effFS, prT, Option.some.injEq] at hy
      obtain rfl : m1 = ⟨[], []⟩ := (congrArg Prod.snd hy).symm
      exact (Option.some.inj (congrArg (Option.map Prod.snd) hx)).symm
    · cases hx
  cases hA
  refine Calls.mono (Go.Proofs.Ytfppdlcgipnacaa.E.effects_calls w) ?_
  rintro e w' ⟨b0, n, D, rfl, hnew, hB, hO, hk⟩
  obtain ⟨es, clock, val, hb, hE, hv⟩ := eff_tab hO hk
  have hbw : b0 < w'.heap.size := (Array.getElem?_eq_some_iff.1 hb).1
  have hw : ∀ b, b < w.heap.size → w'.heap[b]? = w.heap[b]? := hB.block
  refine ⟨⟨I.ι, fun b => I.R b ∨ (w.heap.size ≤ b ∧ b < w'.heap.size)⟩, _, _, _, h, ⟨fun n b h => h, fun b h => .inl h, fun b h _ => hw b h, fun n e b h1 h2 => .inl ⟨n, e, h1, h2⟩, fun b h => ?_, hB.size, hB.os, hB.tape, hB.output⟩, hH.more rfl (fun b => Iff.rfl) hw hB.size, ?_, fun l hl n sz v _ h => h⟩
  · rcases h with h | h
    · exact .inl h
    · exact .inr (.inr h.1)
  · refine .tab effKs effVs val b0 es clock ?_ hb hE fun n d hd => ?_
    · exact .inr ⟨hnew, hbw⟩
    · obtain ⟨t, g, f, h1, h2, h3⟩ := hv n d hd
      rw [eff_pick, show Egk n = _ from h1] at hd
      simp only [Option.map_some, Option.some.injEq] at hd
      subst hd
      exact eff_VR (f := f) h2 h3 fun q h4 h5 => .inr ⟨h4, h5⟩
end Go.Proofs.Dk

/- What the functions of the program do, read off their text. -/
namespace Go.Proofs.Dk
open Go
set_option maxRecDepth 100000
set_option linter.unusedVariables false
/-! ### vm_Machine_acts: a table -/
theorem tab40 : TabOk Try.prog 40 (1, [[25], [24], [23], [22], [21], [20], [19], [18], [17], [16], [15], [14], [13], [12], [11], [10], [9], [8], [7], [6], [5], [4], [3], [2], [1]], [77, 76, 75, 74, 73, 72, 71, 70, 69, 68, 67, 66, 65, 64, 63, 62, 61, 60, 59, 58, 57, 56, 55, 54, 53]) := fun hH hA hl hp => tabOk1 (good0 Try.prog) 14 (fun p => by kernel_rfl) hH hA hl hp
/-! ### num_plain: a table -/
theorem tab94 : TabOk Try.prog 94 (0, [[12], [11], [10], [9], [8], [7], [6], [3], [2], [1]], [109, 108, 107, 106, 105, 104, 103, 102, 101, 100]) := fun hH hA hl hp => tabOk0 (good0 Try.prog) 14 (by kernel_rfl) hH hA hl hp
noncomputable def c0 (n : Nat) : Cx := (((cx0 Try.prog).addSpec 91 effFS).addTab 40 (1, [[25], [24], [23], [22], [21], [20], [19], [18], [17], [16], [15], [14], [13], [12], [11], [10], [9], [8], [7], [6], [5], [4], [3], [2], [1]], [77, 76, 75, 74, 73, 72, 71, 70, 69, 68, 67, 66, 65, 64, 63, 62, 61, 60, 59, 58, 57, 56, 55, 54, 53])).addTab 94 (0, [[12], [11], [10], [9], [8], [7], [6], [3], [2], [1]], [109, 108, 107, 106, 105, 104, 103, 102, 101, 100])
theorem g0 (n : Nat) : Good (c0 n) := (((good0 _).addSpec effects_ok).addTab (fun hH hA hl hp => tab40 hH hA hl hp)).addTab (fun hH hA hl hp => tab94 hH hA hl hp)
/-! ### op_kinds: function 99 -/
noncomputable def op_kinds.f (n : Nat)  : Option (List (ByteArray × (Int × (Int × Int)))) := some [(ByteArray.empty, (0, (0, 0))), ((ByteArray.mk #[80, 85, 83, 72]), (1, ((-9223372036854775808), 9223372036854775807))), ((ByteArray.mk #[68, 82, 79, 80]), (0, (0, 0))), ((ByteArray.mk #[68, 85, 80]), (0, (0, 0))), ((ByteArray.mk #[83, 87, 65, 80]), (0, (0, 0))), ((ByteArray.mk #[84, 87, 79]), (1, (1, 12))), ((ByteArray.mk #[78, 69, 71]), (0, (0, 0))), ((ByteArray.mk #[78, 79, 84]), (0, (0, 0))), ((ByteArray.mk #[66, 79, 84, 72]), (0, (0, 0))), ((ByteArray.mk #[69, 73, 84, 72, 69, 82]), (0, (0, 0))), ((ByteArray.mk #[67, 65, 83, 84]), (0, (0, 0))), ((ByteArray.mk #[76, 79, 65, 68, 76]), (1, (0, 7))), ((ByteArray.mk #[83, 84, 79, 82, 69, 76]), (1, (0, 7))), ((ByteArray.mk #[76, 79, 65, 68, 82]), (1, (0, 7))), ((ByteArray.mk #[83, 84, 79, 82, 69, 82]), (1, (0, 7))), ((ByteArray.mk #[73, 78]), (1, (0, 15))), ((ByteArray.mk #[79, 85, 84]), (1, (0, 15))), ((ByteArray.mk #[71, 69, 84]), (2, (0, 7))), ((ByteArray.mk #[80, 85, 84]), (2, (0, 7))), ((ByteArray.mk #[74, 85, 77, 80]), (1, (0, 199))), ((ByteArray.mk #[66, 82, 65, 78, 67, 72]), (1, (0, 199))), ((ByteArray.mk #[76, 79, 79, 80]), (1, (1, 1000))), ((ByteArray.mk #[78, 69, 88, 84]), (0, (0, 0))), ((ByteArray.mk #[76, 79, 67, 75]), (1, (0, 7))), ((ByteArray.mk #[85, 78, 76, 79, 67, 75]), (1, (0, 7))), ((ByteArray.mk #[69, 78, 68]), (0, (0, 0)))]
noncomputable def op_kinds.fs (n : Nat) : FS := ⟨⟨[], []⟩, ⟨[.val (.arr 26 (.pair .str (.pair (.int .i64) (.pair (.int .i64) (.int .i64)))))], []⟩, (List (ByteArray × (Int × (Int × Int)))), fun y => ((y, ()), ()), fun o => o.1.1, fun x => op_kinds.f n ⟩
theorem op_kinds.e (n : Nat) : FnEq (c0 n) 14 99 0 (op_kinds.fs n) := fun x => by kernel_rfl
noncomputable def c1 (n : Nat) : Cx := (Cx.bare (c0 n)).addSpec 99 (op_kinds.fs n)
theorem g1 (n : Nat) : Good (c1 n) := Good.fn (g0 n) 14 0 (op_kinds.e n) (fun _ => rfl) rfl
/-! ### op_of: function 92 -/
noncomputable def op_of.f (n : Nat) (a0 : Int) : Option (ByteArray × (Int × (Int × Int))) := if (decide (a0 < 1)) then (some (ByteArray.empty, ((-1), (0, 0)))) else (if (decide (a0 > 25)) then (some (ByteArray.empty, ((-1), (0, 0)))) else ((op_kinds.f n ).bind fun y1 => (if (decide (0 ≤ a0) && decide (a0 < 26)) then (some ((y1.getD a0.toNat (ByteArray.empty, ((0 : Int), ((0 : Int), (0 : Int))))).1, ((y1.getD a0.toNat (ByteArray.empty, ((0 : Int), ((0 : Int), (0 : Int))))).2.1, ((y1.getD a0.toNat (ByteArray.empty, ((0 : Int), ((0 : Int), (0 : Int))))).2.2.1, (y1.getD a0.toNat (ByteArray.empty, ((0 : Int), ((0 : Int), (0 : Int))))).2.2.2)))) else none)))
noncomputable def op_of.fs (n : Nat) : FS := ⟨⟨[.val (.int .i64)], []⟩, ⟨[.val (.pair .str (.pair (.int .i64) (.pair (.int .i64) (.int .i64))))], []⟩, (ByteArray × (Int × (Int × Int))), fun y => ((y, ()), ()), fun o => o.1.1, fun x => op_of.f n x.1.1⟩
theorem op_of.e (n : Nat) : FnEq (c1 n) 14 92 0 (op_of.fs n) := fun x => by kernel_rfl
noncomputable def c2 (n : Nat) : Cx := (Cx.bare (c1 n)).addSpec 92 (op_of.fs n)
theorem g2 (n : Nat) : Good (c2 n) := Good.fn (g1 n) 14 0 (op_of.e n) (fun _ => rfl) rfl
/-! ### op_Right: function 84 -/
noncomputable def op_Right.f (n : Nat) (a0 : (Int × (Int × Int))) : Option Bool := (op_of.f n a0.1).bind fun y1 => (if (y1.2.1 == 0) then (if (a0.2.1 == 0) then (some (a0.2.2 == 0)) else (some false)) else (if (y1.2.1 == 1) then (if (decide (a0.2.1 ≥ y1.2.2.1)) then (if (decide (a0.2.1 ≤ y1.2.2.2)) then (some (a0.2.2 == 0)) else (some false)) else (some false)) else (if (y1.2.1 == 2) then (if (decide (a0.2.1 ≥ y1.2.2.1)) then (if (decide (a0.2.1 ≤ y1.2.2.2)) then (if (decide (a0.2.2 ≥ y1.2.2.1)) then (some (decide (a0.2.2 ≤ y1.2.2.2))) else (some false)) else (some false)) else (some false)) else (some false))))
noncomputable def op_Right.fs (n : Nat) : FS := ⟨⟨[.val (.pair (.int .i64) (.pair (.int .i64) (.int .i64)))], []⟩, ⟨[.val .bool], []⟩, Bool, fun y => ((y, ()), ()), fun o => o.1.1, fun x => op_Right.f n x.1.1⟩
theorem op_Right.e (n : Nat) : FnEq (c2 n) 14 84 0 (op_Right.fs n) := fun x => by kernel_rfl
noncomputable def c3 (n : Nat) : Cx := (Cx.bare (c2 n)).addSpec 84 (op_Right.fs n)
theorem g3 (n : Nat) : Good (c3 n) := Good.fn (g2 n) 14 0 (op_Right.e n) (fun _ => rfl) rfl
/-! ### nest_right: function 51 -/
noncomputable def nest_right.b0 (n : Nat) (F : ((List (Int × (Int × Int))) × (List (Int × (Int × Int))) × Int × Int) → Option ((((Bool × Unit) × Unit) ⊕ (((List (Int × (Int × Int))) × Unit) × Unit)))) (v2 : (List (Int × (Int × Int)))) (v3 : (List (Int × (Int × Int)))) (v4 : Int) (v5 : Int) : Option ((((Bool × Unit) × Unit) ⊕ (((List (Int × (Int × Int))) × Unit) × Unit))) := if (decide (v5 < v4)) then (if (decide (0 ≤ v5) && decide (v5 < (v3.length : Int))) then ((op_Right.f n ((v3.getD v5.toNat ((0 : Int), ((0 : Int), (0 : Int)))).1, ((v3.getD v5.toNat ((0 : Int), ((0 : Int), (0 : Int)))).2.1, (v3.getD v5.toNat ((0 : Int), ((0 : Int), (0 : Int)))).2.2))).bind fun y6 => (if (!y6) then (some (.inl ((false, ()), ()))) else (F (v2, v3, v4, (IntKind.wrap .i64 (v5 + 1)))))) else none) else (some (.inr ((v2, ()), ())))
noncomputable def nest_right.b0.l (n : Nat) : ((List (Int × (Int × Int))) × (List (Int × (Int × Int))) × Int × Int) → Option ((((Bool × Unit) × Unit) ⊕ (((List (Int × (Int × Int))) × Unit) × Unit)))   := it (fun F x => nest_right.b0 n F x.1 x.2.1 x.2.2.1 x.2.2.2) n
noncomputable def nest_right.b0.L (n : Nat) : Loop := ⟨⟨ofs 23 0 [(0, .val (.sl (.pair (.int .i64) (.pair (.int .i64) (.int .i64))))), (5, .val (.sl (.pair (.int .i64) (.pair (.int .i64) (.int .i64))))), (6, .val (.int .i64)), (7, .val (.int .i64))], []⟩, [(.ret, ⟨ofs 23 0 [(2, .val .bool)], []⟩), (.exit 0, ⟨ofs 23 0 [(0, .val (.sl (.pair (.int .i64) (.pair (.int .i64) (.int .i64)))))], []⟩)], ((List (Int × (Int × Int))) × (List (Int × (Int × Int))) × Int × Int), fun x => ((x.1, x.2.1, x.2.2.1, x.2.2.2, ()), ()), fun (x : (((List (Int × (Int × Int))) × (List (Int × (Int × Int))) × Int × Int × Unit) × Unit)) => (x.1.1, x.1.2.1, x.1.2.2.1, x.1.2.2.2.1), (((Bool × Unit) × Unit) ⊕ (((List (Int × (Int × Int))) × Unit) × Unit)), fun y => y, fun y => y, nest_right.b0.l n⟩
noncomputable def nest_right.f (n : Nat) (a0 : (List (Int × (Int × Int)))) : Option Bool := (nest_right.b0.l n (a0, a0, (a0.length : Int), 0)).bind fun y1 => ((Sum.elim (fun (z2 : ((Bool × Unit) × Unit)) => (some z2.1.1)) (fun (z3 : (((List (Int × (Int × Int))) × Unit) × Unit)) => (if (decide ((z3.1.1.length : Int) > 0)) then (some (decide ((z3.1.1.length : Int) ≤ 200))) else (some false)))) y1)
noncomputable def nest_right.fs (n : Nat) : FS := ⟨⟨[.val (.sl (.pair (.int .i64) (.pair (.int .i64) (.int .i64))))], []⟩, ⟨[.val .bool], []⟩, Bool, fun y => ((y, ()), ()), fun o => o.1.1, fun x => nest_right.f n x.1.1⟩
theorem nest_right.b0.e (n : Nat) : ∀ F x, evLoop (c3 n) 14 51 0 2 (nest_right.b0.L n) F x = nest_right.b0 n F x.1 x.2.1 x.2.2.1 x.2.2.2 := fun F x => by kernel_rfl
noncomputable def nest_right.b0.c (n : Nat) : Cx := Cx.addLoop (c3 n) 51 2 (nest_right.b0.L n)
theorem nest_right.b0.g (n : Nat) : Good (nest_right.b0.c n) := Good.loop (g3 n) 14 0 (by kernel_rfl) (nest_right.b0.e n) n (fun _ => rfl) (fun _ => rfl) (fun _ => rfl) rfl
theorem nest_right.e (n : Nat) : FnEq (nest_right.b0.c n) 14 51 0 (nest_right.fs n) := fun x => by kernel_rfl
noncomputable def c4 (n : Nat) : Cx := (Cx.bare (nest_right.b0.c n)).addSpec 51 (nest_right.fs n)
theorem g4 (n : Nat) : Good (c4 n) := Good.fn (nest_right.b0.g n) 14 0 (nest_right.e n) (fun _ => rfl) rfl
/-! ### nest_opening: function 52 -/
noncomputable def nest_opening.f (n : Nat) (a0 : (Int × (Int × Int))) : Option ((Int × (Int × Int)) × Bool) := if (a0.1 == 21) then (some ((22, (0, 0)), true)) else (if (a0.1 == 23) then (some ((24, (a0.2.1, 0)), true)) else (some ((0, (0, 0)), false)))
noncomputable def nest_opening.fs (n : Nat) : FS := ⟨⟨[.val (.pair (.int .i64) (.pair (.int .i64) (.int .i64)))], []⟩, ⟨[.val (.pair (.int .i64) (.pair (.int .i64) (.int .i64))), .val .bool], []⟩, ((Int × (Int × Int)) × Bool), fun y => ((y.1, y.2, ()), ()), fun o => (o.1.1, o.1.2.1), fun x => nest_opening.f n x.1.1⟩
theorem nest_opening.e (n : Nat) : FnEq (c4 n) 14 52 0 (nest_opening.fs n) := fun x => by kernel_rfl
noncomputable def c5 (n : Nat) : Cx := (Cx.bare (c4 n)).addSpec 52 (nest_opening.fs n)
theorem g5 (n : Nat) : Good (c5 n) := Good.fn (g4 n) 14 0 (nest_opening.e n) (fun _ => rfl) rfl
/-! ### nest_scan: function 38 -/
noncomputable def nest_scan.j0 (n : Nat) (v12 : (List Int)) (v13 : (List Int)) (v14 : (List (Int × (Int × (Int × Int))))) (v15 : Int) (v16 : (List (Int × (Int × Int)))) (v17 : Int) (v18 : Int) (v19 : Int) (v20 : Int) (v21 : Int) : Option (((List Int) × (List Int) × (List (Int × (Int × (Int × Int)))) × Int × (List (Int × (Int × Int))) × Int × Int × Int × Int × Int)) := if (decide ((v14.length : Int) > 0)) then (if (decide (0 ≤ (IntKind.wrap .i64 ((v14.length : Int) - 1))) && decide ((IntKind.wrap .i64 ((v14.length : Int) - 1)) < (v14.length : Int))) then (if (decide (0 ≤ v15) && decide (v15 < (v13.length : Int))) then (some (v12, (v13.set v15.toNat (v14.getD ((IntKind.wrap .i64 ((v14.length : Int) - 1))).toNat ((0 : Int), ((0 : Int), ((0 : Int), (0 : Int))))).1), v14, v15, v16, v17, v18, v19, v20, v21)) else none) else none) else (some (v12, v13, v14, v15, v16, v17, v18, v19, v20, v21))
noncomputable def nest_scan.j0.L (n : Nat) : Loop := ⟨⟨ofs 106 0 [(5, .row 3 (.int .i64)), (6, .row 3 (.int .i64)), (7, .row 104 (.pair (.int .i64) (.pair (.int .i64) (.pair (.int .i64) (.int .i64))))), (8, .val (.int .i64)), (9, .obj 0), (21, .val (.sl (.pair (.int .i64) (.pair (.int .i64) (.int .i64))))), (22, .val (.int .i64)), (23, .val (.int .i64))], [[.val (.int .i64), .val (.int .i64), .val (.int .i64)]]⟩, [(.norm, ⟨ofs 106 0 [(5, .row 3 (.int .i64)), (6, .row 3 (.int .i64)), (7, .row 104 (.pair (.int .i64) (.pair (.int .i64) (.pair (.int .i64) (.int .i64))))), (8, .val (.int .i64)), (9, .obj 0), (21, .val (.sl (.pair (.int .i64) (.pair (.int .i64) (.int .i64))))), (22, .val (.int .i64)), (23, .val (.int .i64))], [[.val (.int .i64), .val (.int .i64), .val (.int .i64)]]⟩)], ((List Int) × (List Int) × (List (Int × (Int × (Int × Int)))) × Int × (List (Int × (Int × Int))) × Int × Int × Int × Int × Int), fun x => ((x.1, x.2.1, x.2.2.1, x.2.2.2.1, x.2.2.2.2.1, x.2.2.2.2.2.1, x.2.2.2.2.2.2.1, ()), ((x.2.2.2.2.2.2.2.1, x.2.2.2.2.2.2.2.2.1, x.2.2.2.2.2.2.2.2.2, ()), ())), fun (x : (((List Int) × (List Int) × (List (Int × (Int × (Int × Int)))) × Int × (List (Int × (Int × Int))) × Int × Int × Unit) × ((Int × Int × Int × Unit) × Unit))) => (x.1.1, x.1.2.1, x.1.2.2.1, x.1.2.2.2.1, x.1.2.2.2.2.1, x.1.2.2.2.2.2.1, x.1.2.2.2.2.2.2.1, x.2.1.1, x.2.1.2.1, x.2.1.2.2.1), ((List Int) × (List Int) × (List (Int × (Int × (Int × Int)))) × Int × (List (Int × (Int × Int))) × Int × Int × Int × Int × Int), fun y => ((y.1, y.2.1, y.2.2.1, y.2.2.2.1, y.2.2.2.2.1, y.2.2.2.2.2.1, y.2.2.2.2.2.2.1, ()), ((y.2.2.2.2.2.2.2.1, y.2.2.2.2.2.2.2.2.1, y.2.2.2.2.2.2.2.2.2, ()), ())), fun (o : (((List Int) × (List Int) × (List (Int × (Int × (Int × Int)))) × Int × (List (Int × (Int × Int))) × Int × Int × Unit) × ((Int × Int × Int × Unit) × Unit))) => (o.1.1, o.1.2.1, o.1.2.2.1, o.1.2.2.2.1, o.1.2.2.2.2.1, o.1.2.2.2.2.2.1, o.1.2.2.2.2.2.2.1, o.2.1.1, o.2.1.2.1, o.2.1.2.2.1), fun x => nest_scan.j0 n x.1 x.2.1 x.2.2.1 x.2.2.2.1 x.2.2.2.2.1 x.2.2.2.2.2.1 x.2.2.2.2.2.2.1 x.2.2.2.2.2.2.2.1 x.2.2.2.2.2.2.2.2.1 x.2.2.2.2.2.2.2.2.2⟩
noncomputable def nest_scan.j1 (n : Nat) (v14 : (List Int)) (v15 : (List Int)) (v16 : (List (Int × (Int × (Int × Int))))) (v17 : Int) (v18 : (List (Int × (Int × Int)))) (v19 : Int) (v20 : Int) (v21 : Int) (v22 : Int) (v23 : Int) : Option (((((List Int) × (List Int) × (List (Int × (Int × (Int × Int)))) × (List (Int × (Int × Int))) × Int × Int × Unit) × ((Int × Int × Int × Unit) × Unit)) ⊕ (((List Int) × (List Int) × (List (Int × (Int × (Int × Int)))) × Int × (List (Int × (Int × Int))) × Int × Int × Unit) × ((Int × Int × Int × Unit) × Unit)))) := if (v21 != 22) then (if (v21 != 24) then (some (.inl ((v14, v15, v16, v18, v19, v20, ()), ((v21, v22, v23, ()), ())))) else (some (.inr ((v14, v15, v16, v17, v18, v19, v20, ()), ((v21, v22, v23, ()), ()))))) else (some (.inr ((v14, v15, v16, v17, v18, v19, v20, ()), ((v21, v22, v23, ()), ()))))
noncomputable def nest_scan.j1.L (n : Nat) : Loop := ⟨⟨ofs 106 0 [(5, .row 3 (.int .i64)), (6, .row 3 (.int .i64)), (7, .row 104 (.pair (.int .i64) (.pair (.int .i64) (.pair (.int .i64) (.int .i64))))), (8, .val (.int .i64)), (9, .obj 0), (21, .val (.sl (.pair (.int .i64) (.pair (.int .i64) (.int .i64))))), (22, .val (.int .i64)), (23, .val (.int .i64))], [[.val (.int .i64), .val (.int .i64), .val (.int .i64)]]⟩, [(.exit 1, ⟨ofs 106 0 [(5, .row 3 (.int .i64)), (6, .row 3 (.int .i64)), (7, .row 104 (.pair (.int .i64) (.pair (.int .i64) (.pair (.int .i64) (.int .i64))))), (21, .val (.sl (.pair (.int .i64) (.pair (.int .i64) (.int .i64))))), (22, .val (.int .i64)), (23, .val (.int .i64))], [[.val (.int .i64), .val (.int .i64), .val (.int .i64)]]⟩), (.norm, ⟨ofs 106 0 [(5, .row 3 (.int .i64)), (6, .row 3 (.int .i64)), (7, .row 104 (.pair (.int .i64) (.pair (.int .i64) (.pair (.int .i64) (.int .i64))))), (8, .val (.int .i64)), (9, .obj 0), (21, .val (.sl (.pair (.int .i64) (.pair (.int .i64) (.int .i64))))), (22, .val (.int .i64)), (23, .val (.int .i64))], [[.val (.int .i64), .val (.int .i64), .val (.int .i64)]]⟩)], ((List Int) × (List Int) × (List (Int × (Int × (Int × Int)))) × Int × (List (Int × (Int × Int))) × Int × Int × Int × Int × Int), fun x => ((x.1, x.2.1, x.2.2.1, x.2.2.2.1, x.2.2.2.2.1, x.2.2.2.2.2.1, x.2.2.2.2.2.2.1, ()), ((x.2.2.2.2.2.2.2.1, x.2.2.2.2.2.2.2.2.1, x.2.2.2.2.2.2.2.2.2, ()), ())), fun (x : (((List Int) × (List Int) × (List (Int × (Int × (Int × Int)))) × Int × (List (Int × (Int × Int))) × Int × Int × Unit) × ((Int × Int × Int × Unit) × Unit))) => (x.1.1, x.1.2.1, x.1.2.2.1, x.1.2.2.2.1, x.1.2.2.2.2.1, x.1.2.2.2.2.2.1, x.1.2.2.2.2.2.2.1, x.2.1.1, x.2.1.2.1, x.2.1.2.2.1), ((((List Int) × (List Int) × (List (Int × (Int × (Int × Int)))) × (List (Int × (Int × Int))) × Int × Int × Unit) × ((Int × Int × Int × Unit) × Unit)) ⊕ (((List Int) × (List Int) × (List (Int × (Int × (Int × Int)))) × Int × (List (Int × (Int × Int))) × Int × Int × Unit) × ((Int × Int × Int × Unit) × Unit))), fun y => y, fun y => y, fun x => nest_scan.j1 n x.1 x.2.1 x.2.2.1 x.2.2.2.1 x.2.2.2.2.1 x.2.2.2.2.2.1 x.2.2.2.2.2.2.1 x.2.2.2.2.2.2.2.1 x.2.2.2.2.2.2.2.2.1 x.2.2.2.2.2.2.2.2.2⟩
noncomputable def nest_scan.b2 (n : Nat) (F : ((List Int) × (List Int) × (List (Int × (Int × (Int × Int)))) × (List (Int × (Int × Int))) × Int × Int) → Option (((((List Int) × (List Int) × Int × Unit) × Unit) ⊕ (((List Int) × (List Int) × (List (Int × (Int × (Int × Int)))) × Unit) × Unit)))) (v6 : (List Int)) (v7 : (List Int)) (v8 : (List (Int × (Int × (Int × Int))))) (v9 : (List (Int × (Int × Int)))) (v10 : Int) (v11 : Int) : Option (((((List Int) × (List Int) × Int × Unit) × Unit) ⊕ (((List Int) × (List Int) × (List (Int × (Int × (Int × Int)))) × Unit) × Unit))) := if (decide (v11 < v10)) then (if (decide (0 ≤ v11) && decide (v11 < (v9.length : Int))) then (if (decide (0 ≤ v11) && decide (v11 < (v6.length : Int))) then (if (decide (0 ≤ v11) && decide (v11 < (v7.length : Int))) then ((nest_scan.j0 n (v6.set v11.toNat (-1)) (v7.set v11.toNat (-1)) v8 v11 v9 v10 v11 ((v9.getD v11.toNat ((0 : Int), ((0 : Int), (0 : Int)))).1) ((v9.getD v11.toNat ((0 : Int), ((0 : Int), (0 : Int)))).2.1) ((v9.getD v11.toNat ((0 : Int), ((0 : Int), (0 : Int)))).2.2)).bind fun y12 => ((nest_opening.f n (y12.2.2.2.2.2.2.2.1, (y12.2.2.2.2.2.2.2.2.1, y12.2.2.2.2.2.2.2.2.2))).bind fun y13 => (if y13.2 then (if (decide ((y12.2.2.1.length + 1) * 32 ≤ 140737488355328) && decide (1 ≤ 32)) then (F (y12.1, y12.2.1, (y12.2.2.1 ++ [(y12.2.2.2.1, (y13.1.1, (y13.1.2.1, y13.1.2.2)))]), y12.2.2.2.2.1, y12.2.2.2.2.2.1, (IntKind.wrap .i64 (y12.2.2.2.2.2.2.1 + 1)))) else none) else ((nest_scan.j1 n y12.1 y12.2.1 y12.2.2.1 y12.2.2.2.1 y12.2.2.2.2.1 y12.2.2.2.2.2.1 y12.2.2.2.2.2.2.1 y12.2.2.2.2.2.2.2.1 y12.2.2.2.2.2.2.2.2.1 y12.2.2.2.2.2.2.2.2.2).bind fun y14 => ((Sum.elim (fun (z15 : (((List Int) × (List Int) × (List (Int × (Int × (Int × Int)))) × (List (Int × (Int × Int))) × Int × Int × Unit) × ((Int × Int × Int × Unit) × Unit))) => (F (z15.1.1, z15.1.2.1, z15.1.2.2.1, z15.1.2.2.2.1, z15.1.2.2.2.2.1, (IntKind.wrap .i64 (z15.1.2.2.2.2.2.1 + 1))))) (fun (z16 : (((List Int) × (List Int) × (List (Int × (Int × (Int × Int)))) × Int × (List (Int × (Int × Int))) × Int × Int × Unit) × ((Int × Int × Int × Unit) × Unit))) => (if ((z16.1.2.2.1.length : Int) == 0) then (some (.inl (([], [], 7, ()), ()))) else (if (decide (0 ≤ (IntKind.wrap .i64 ((z16.1.2.2.1.length : Int) - 1))) && decide ((IntKind.wrap .i64 ((z16.1.2.2.1.length : Int) - 1)) < (z16.1.2.2.1.length : Int))) then (if (!(((z16.1.2.2.1.getD ((IntKind.wrap .i64 ((z16.1.2.2.1.length : Int) - 1))).toNat ((0 : Int), ((0 : Int), ((0 : Int), (0 : Int))))).2.1 == z16.2.1.1) && (((z16.1.2.2.1.getD ((IntKind.wrap .i64 ((z16.1.2.2.1.length : Int) - 1))).toNat ((0 : Int), ((0 : Int), ((0 : Int), (0 : Int))))).2.2.1 == z16.2.1.2.1) && ((z16.1.2.2.1.getD ((IntKind.wrap .i64 ((z16.1.2.2.1.length : Int) - 1))).toNat ((0 : Int), ((0 : Int), ((0 : Int), (0 : Int))))).2.2.2 == z16.2.1.2.2.1)))) then (some (.inl (([], [], 7, ()), ()))) else (if (decide (0 ≤ z16.1.2.2.2.1) && decide (z16.1.2.2.2.1 < (z16.1.2.1.length : Int))) then (if (decide (0 ≤ z16.1.2.2.2.1) && decide (z16.1.2.2.2.1 < (z16.1.2.1.length : Int))) then (if (decide (0 ≤ z16.1.2.2.2.1) && decide (z16.1.2.2.2.1 < (z16.1.1.length : Int))) then (if (decide (0 ≤ (z16.1.2.1.getD z16.1.2.2.2.1.toNat (0 : Int))) && decide ((z16.1.2.1.getD z16.1.2.2.2.1.toNat (0 : Int)) < (((z16.1.1.set z16.1.2.2.2.1.toNat (z16.1.2.1.getD z16.1.2.2.2.1.toNat (0 : Int))).length : Nat) : Int))) then (if (decide (0 ≤ (IntKind.wrap .i64 ((z16.1.2.2.1.length : Int) - 1))) && decide ((IntKind.wrap .i64 ((z16.1.2.2.1.length : Int) - 1)) ≤ (z16.1.2.2.1.length : Int))) then (F (((z16.1.1.set z16.1.2.2.2.1.toNat (z16.1.2.1.getD z16.1.2.2.2.1.toNat (0 : Int))).set ((z16.1.2.1.getD z16.1.2.2.2.1.toNat (0 : Int))).toNat z16.1.2.2.2.1), z16.1.2.1, (z16.1.2.2.1.take (((IntKind.wrap .i64 ((z16.1.2.2.1.length : Int) - 1))).toNat - 0)), z16.1.2.2.2.2.1, z16.1.2.2.2.2.2.1, (IntKind.wrap .i64 (z16.1.2.2.2.2.2.2.1 + 1)))) else none) else none) else none) else none) else none)) else none)))) y14))))) else none) else none) else none) else (some (.inr ((v6, v7, v8, ()), ())))
noncomputable def nest_scan.b2.l (n : Nat) : ((List Int) × (List Int) × (List (Int × (Int × (Int × Int)))) × (List (Int × (Int × Int))) × Int × Int) → Option (((((List Int) × (List Int) × Int × Unit) × Unit) ⊕ (((List Int) × (List Int) × (List (Int × (Int × (Int × Int)))) × Unit) × Unit)))   := it (fun F x => nest_scan.b2 n F x.1 x.2.1 x.2.2.1 x.2.2.2.1 x.2.2.2.2.1 x.2.2.2.2.2) n
noncomputable def nest_scan.b2.L (n : Nat) : Loop := ⟨⟨ofs 106 0 [(5, .row 3 (.int .i64)), (6, .row 3 (.int .i64)), (7, .row 104 (.pair (.int .i64) (.pair (.int .i64) (.pair (.int .i64) (.int .i64))))), (21, .val (.sl (.pair (.int .i64) (.pair (.int .i64) (.int .i64))))), (22, .val (.int .i64)), (23, .val (.int .i64))], []⟩, [(.ret, ⟨ofs 106 0 [(2, .row 3 (.int .i64)), (3, .row 3 (.int .i64)), (4, .val (.int .i64))], []⟩), (.exit 0, ⟨ofs 106 0 [(5, .row 3 (.int .i64)), (6, .row 3 (.int .i64)), (7, .row 104 (.pair (.int .i64) (.pair (.int .i64) (.pair (.int .i64) (.int .i64)))))], []⟩)], ((List Int) × (List Int) × (List (Int × (Int × (Int × Int)))) × (List (Int × (Int × Int))) × Int × Int), fun x => ((x.1, x.2.1, x.2.2.1, x.2.2.2.1, x.2.2.2.2.1, x.2.2.2.2.2, ()), ()), fun (x : (((List Int) × (List Int) × (List (Int × (Int × (Int × Int)))) × (List (Int × (Int × Int))) × Int × Int × Unit) × Unit)) => (x.1.1, x.1.2.1, x.1.2.2.1, x.1.2.2.2.1, x.1.2.2.2.2.1, x.1.2.2.2.2.2.1), ((((List Int) × (List Int) × Int × Unit) × Unit) ⊕ (((List Int) × (List Int) × (List (Int × (Int × (Int × Int)))) × Unit) × Unit)), fun y => y, fun y => y, nest_scan.b2.l n⟩
noncomputable def nest_scan.f (n : Nat) (a0 : (List (Int × (Int × Int)))) : Option ((List Int) × (List Int) × Int) := (nest_right.f n a0).bind fun y1 => (if (!y1) then (some ([], [], 1)) else (if (decide (0 ≤ (a0.length : Int)) && ((a0.length : Int) == (a0.length : Int)) && decide ((a0.length : Int) * (8 : Int) ≤ 140737488355328) && decide (1 ≤ 8)) then (if (decide (0 ≤ (a0.length : Int)) && ((a0.length : Int) == (a0.length : Int)) && decide ((a0.length : Int) * (8 : Int) ≤ 140737488355328) && decide (1 ≤ 8)) then ((nest_scan.b2.l n ((List.replicate ((a0.length : Int)).toNat (0 : Int)), (List.replicate ((a0.length : Int)).toNat (0 : Int)), [], a0, (a0.length : Int), 0)).bind fun y2 => ((Sum.elim (fun (z3 : (((List Int) × (List Int) × Int × Unit) × Unit)) => (some (z3.1.1, z3.1.2.1, z3.1.2.2.1))) (fun (z4 : (((List Int) × (List Int) × (List (Int × (Int × (Int × Int)))) × Unit) × Unit)) => (if (decide ((z4.1.2.2.1.length : Int) > 0)) then (some ([], [], 7)) else (some (z4.1.1, z4.1.2.1, 0))))) y2)) else none) else none))
noncomputable def nest_scan.fs (n : Nat) : FS := ⟨⟨[.val (.sl (.pair (.int .i64) (.pair (.int .i64) (.int .i64))))], []⟩, ⟨[.val (.sl (.int .i64)), .val (.sl (.int .i64)), .val (.int .i64)], []⟩, ((List Int) × (List Int) × Int), fun y => ((y.1, y.2.1, y.2.2, ()), ()), fun o => (o.1.1, o.1.2.1, o.1.2.2.1), fun x => nest_scan.f n x.1.1⟩
theorem nest_scan.j0.e (n : Nat) : ∀ x, evJoin (c5 n) 14 38 0 1000011 (nest_scan.j0.L n) x = (nest_scan.j0.L n).fn x := fun x => by kernel_rfl
noncomputable def nest_scan.j0.c (n : Nat) : Cx := Cx.addLoop (c5 n) 38 1000011 (nest_scan.j0.L n)
theorem nest_scan.j0.g (n : Nat) : Good (nest_scan.j0.c n) := Good.join (g5 n) 14 0 (by kernel_rfl) (nest_scan.j0.e n) (fun _ => rfl) (fun _ => rfl) rfl
theorem nest_scan.j1.e (n : Nat) : ∀ x, evJoin (nest_scan.j0.c n) 14 38 0 1000015 (nest_scan.j1.L n) x = (nest_scan.j1.L n).fn x := fun x => by kernel_rfl
noncomputable def nest_scan.j1.c (n : Nat) : Cx := Cx.addLoop (nest_scan.j0.c n) 38 1000015 (nest_scan.j1.L n)
theorem nest_scan.j1.g (n : Nat) : Good (nest_scan.j1.c n) := Good.join (nest_scan.j0.g n) 14 0 (by kernel_rfl) (nest_scan.j1.e n) (fun _ => rfl) (fun _ => rfl) rfl
theorem nest_scan.b2.e (n : Nat) : ∀ F x, evLoop (nest_scan.j1.c n) 14 38 0 6 (nest_scan.b2.L n) F x = nest_scan.b2 n F x.1 x.2.1 x.2.2.1 x.2.2.2.1 x.2.2.2.2.1 x.2.2.2.2.2 := fun F x => by kernel_rfl
noncomputable def nest_scan.b2.c (n : Nat) : Cx := Cx.addLoop (nest_scan.j1.c n) 38 6 (nest_scan.b2.L n)
theorem nest_scan.b2.g (n : Nat) : Good (nest_scan.b2.c n) := Good.loop (nest_scan.j1.g n) 14 0 (by kernel_rfl) (nest_scan.b2.e n) n (fun _ => rfl) (fun _ => rfl) (fun _ => rfl) rfl
theorem nest_scan.e (n : Nat) : FnEq (nest_scan.b2.c n) 14 38 0 (nest_scan.fs n) := fun x => by kernel_rfl
noncomputable def c6 (n : Nat) : Cx := (Cx.bare (nest_scan.b2.c n)).addSpec 38 (nest_scan.fs n)
theorem g6 (n : Nat) : Good (c6 n) := Good.fn (nest_scan.b2.g n) 14 0 (nest_scan.e n) (fun _ => rfl) rfl
/-! ### nest_Whole: function 35 -/
noncomputable def nest_Whole.b0 (n : Nat) (F : ((List (Int × (Int × Int))) × (List Int) × Int × (List (Int × (Int × Int))) × Int × Int) → Option ((((Int × Unit) × Unit) ⊕ (((List (Int × (Int × Int))) × (List Int) × Int × Unit) × Unit)))) (v5 : (List (Int × (Int × Int)))) (v6 : (List Int)) (v7 : Int) (v8 : (List (Int × (Int × Int)))) (v9 : Int) (v10 : Int) : Option ((((Int × Unit) × Unit) ⊕ (((List (Int × (Int × Int))) × (List Int) × Int × Unit) × Unit))) := if (decide (v10 < v9)) then (if (decide (0 ≤ v10) && decide (v10 < (v8.length : Int))) then (if (((v8.getD v10.toNat ((0 : Int), ((0 : Int), (0 : Int)))).1 == 25) != (v10 == v7)) then (some (.inl ((7, ()), ()))) else (F (v5, v6, v7, v8, v9, (IntKind.wrap .i64 (v10 + 1))))) else none) else (some (.inr ((v5, v6, v7, ()), ())))
noncomputable def nest_Whole.b0.l (n : Nat) : ((List (Int × (Int × Int))) × (List Int) × Int × (List (Int × (Int × Int))) × Int × Int) → Option ((((Int × Unit) × Unit) ⊕ (((List (Int × (Int × Int))) × (List Int) × Int × Unit) × Unit)))   := it (fun F x => nest_Whole.b0 n F x.1 x.2.1 x.2.2.1 x.2.2.2.1 x.2.2.2.2.1 x.2.2.2.2.2) n
noncomputable def nest_Whole.b0.L (n : Nat) : Loop := ⟨⟨ofs 74 0 [(0, .val (.sl (.pair (.int .i64) (.pair (.int .i64) (.int .i64))))), (4, .val (.sl (.int .i64))), (6, .val (.int .i64)), (24, .val (.sl (.pair (.int .i64) (.pair (.int .i64) (.int .i64))))), (25, .val (.int .i64)), (26, .val (.int .i64))], []⟩, [(.ret, ⟨ofs 74 0 [(2, .val (.int .i64))], []⟩), (.exit 0, ⟨ofs 74 0 [(0, .val (.sl (.pair (.int .i64) (.pair (.int .i64) (.int .i64))))), (4, .val (.sl (.int .i64))), (6, .val (.int .i64))], []⟩)], ((List (Int × (Int × Int))) × (List Int) × Int × (List (Int × (Int × Int))) × Int × Int), fun x => ((x.1, x.2.1, x.2.2.1, x.2.2.2.1, x.2.2.2.2.1, x.2.2.2.2.2, ()), ()), fun (x : (((List (Int × (Int × Int))) × (List Int) × Int × (List (Int × (Int × Int))) × Int × Int × Unit) × Unit)) => (x.1.1, x.1.2.1, x.1.2.2.1, x.1.2.2.2.1, x.1.2.2.2.2.1, x.1.2.2.2.2.2.1), (((Int × Unit) × Unit) ⊕ (((List (Int × (Int × Int))) × (List Int) × Int × Unit) × Unit)), fun y => y, fun y => y, nest_Whole.b0.l n⟩
noncomputable def nest_Whole.j1 (n : Nat) (v10 : (List Int)) (v11 : Int) (v12 : Int) (v13 : (List (Int × (Int × Int)))) (v14 : Int) (v15 : Int) (v16 : Int) (v17 : Int) (v18 : Int) : Option (((((List Int) × Int × (List (Int × (Int × Int))) × Int × Int × Unit) × ((Int × Int × Int × Unit) × Unit)) ⊕ (((List Int) × Int × Int × (List (Int × (Int × Int))) × Int × Int × Unit) × ((Int × Int × Int × Unit) × Unit)))) := if (v16 != 19) then (if (v16 != 20) then (some (.inl ((v10, v11, v13, v14, v15, ()), ((v16, v17, v18, ()), ())))) else (some (.inr ((v10, v11, v12, v13, v14, v15, ()), ((v16, v17, v18, ()), ()))))) else (some (.inr ((v10, v11, v12, v13, v14, v15, ()), ((v16, v17, v18, ()), ()))))
noncomputable def nest_Whole.j1.L (n : Nat) : Loop := ⟨⟨ofs 74 0 [(4, .val (.sl (.int .i64))), (6, .val (.int .i64)), (9, .val (.int .i64)), (10, .obj 0), (39, .val (.sl (.pair (.int .i64) (.pair (.int .i64) (.int .i64))))), (40, .val (.int .i64)), (41, .val (.int .i64))], [[.val (.int .i64), .val (.int .i64), .val (.int .i64)]]⟩, [(.exit 3, ⟨ofs 74 0 [(4, .val (.sl (.int .i64))), (6, .val (.int .i64)), (39, .val (.sl (.pair (.int .i64) (.pair (.int .i64) (.int .i64))))), (40, .val (.int .i64)), (41, .val (.int .i64))], [[.val (.int .i64), .val (.int .i64), .val (.int .i64)]]⟩), (.norm, ⟨ofs 74 0 [(4, .val (.sl (.int .i64))), (6, .val (.int .i64)), (9, .val (.int .i64)), (10, .obj 0), (39, .val (.sl (.pair (.int .i64) (.pair (.int .i64) (.int .i64))))), (40, .val (.int .i64)), (41, .val (.int .i64))], [[.val (.int .i64), .val (.int .i64), .val (.int .i64)]]⟩)], ((List Int) × Int × Int × (List (Int × (Int × Int))) × Int × Int × Int × Int × Int), fun x => ((x.1, x.2.1, x.2.2.1, x.2.2.2.1, x.2.2.2.2.1, x.2.2.2.2.2.1, ()), ((x.2.2.2.2.2.2.1, x.2.2.2.2.2.2.2.1, x.2.2.2.2.2.2.2.2, ()), ())), fun (x : (((List Int) × Int × Int × (List (Int × (Int × Int))) × Int × Int × Unit) × ((Int × Int × Int × Unit) × Unit))) => (x.1.1, x.1.2.1, x.1.2.2.1, x.1.2.2.2.1, x.1.2.2.2.2.1, x.1.2.2.2.2.2.1, x.2.1.1, x.2.1.2.1, x.2.1.2.2.1), ((((List Int) × Int × (List (Int × (Int × Int))) × Int × Int × Unit) × ((Int × Int × Int × Unit) × Unit)) ⊕ (((List Int) × Int × Int × (List (Int × (Int × Int))) × Int × Int × Unit) × ((Int × Int × Int × Unit) × Unit))), fun y => y, fun y => y, fun x => nest_Whole.j1 n x.1 x.2.1 x.2.2.1 x.2.2.2.1 x.2.2.2.2.1 x.2.2.2.2.2.1 x.2.2.2.2.2.2.1 x.2.2.2.2.2.2.2.1 x.2.2.2.2.2.2.2.2⟩
noncomputable def nest_Whole.b2 (n : Nat) (F : ((List Int) × Int × (List (Int × (Int × Int))) × Int × Int) → Option ((((Int × Unit) × Unit) ⊕ (Unit × Unit)))) (v5 : (List Int)) (v6 : Int) (v7 : (List (Int × (Int × Int)))) (v8 : Int) (v9 : Int) : Option ((((Int × Unit) × Unit) ⊕ (Unit × Unit))) := if (decide (v9 < v8)) then (if (decide (0 ≤ v9) && decide (v9 < (v7.length : Int))) then ((nest_Whole.j1 n v5 v6 v9 v7 v8 v9 ((v7.getD v9.toNat ((0 : Int), ((0 : Int), (0 : Int)))).1) ((v7.getD v9.toNat ((0 : Int), ((0 : Int), (0 : Int)))).2.1) ((v7.getD v9.toNat ((0 : Int), ((0 : Int), (0 : Int)))).2.2)).bind fun y10 => ((Sum.elim (fun (z11 : (((List Int) × Int × (List (Int × (Int × Int))) × Int × Int × Unit) × ((Int × Int × Int × Unit) × Unit))) => (F (z11.1.1, z11.1.2.1, z11.1.2.2.1, z11.1.2.2.2.1, (IntKind.wrap .i64 (z11.1.2.2.2.2.1 + 1))))) (fun (z12 : (((List Int) × Int × Int × (List (Int × (Int × Int))) × Int × Int × Unit) × ((Int × Int × Int × Unit) × Unit))) => (if (decide ((IntKind.wrap .i64 ((IntKind.wrap .i64 (z12.1.2.2.1 + 1)) + z12.2.1.2.1)) > z12.1.2.1)) then (some (.inl ((8, ()), ()))) else (if (decide (0 ≤ (IntKind.wrap .i64 ((IntKind.wrap .i64 (z12.1.2.2.1 + 1)) + z12.2.1.2.1))) && decide ((IntKind.wrap .i64 ((IntKind.wrap .i64 (z12.1.2.2.1 + 1)) + z12.2.1.2.1)) < (z12.1.1.length : Int))) then (if (decide (0 ≤ z12.1.2.2.1) && decide (z12.1.2.2.1 < (z12.1.1.length : Int))) then (if ((z12.1.1.getD ((IntKind.wrap .i64 ((IntKind.wrap .i64 (z12.1.2.2.1 + 1)) + z12.2.1.2.1))).toNat (0 : Int)) != (z12.1.1.getD z12.1.2.2.1.toNat (0 : Int))) then (some (.inl ((8, ()), ()))) else (F (z12.1.1, z12.1.2.1, z12.1.2.2.2.1, z12.1.2.2.2.2.1, (IntKind.wrap .i64 (z12.1.2.2.2.2.2.1 + 1))))) else none) else none)))) y10)) else none) else (some (.inr ((), ())))
noncomputable def nest_Whole.b2.l (n : Nat) : ((List Int) × Int × (List (Int × (Int × Int))) × Int × Int) → Option ((((Int × Unit) × Unit) ⊕ (Unit × Unit)))   := it (fun F x => nest_Whole.b2 n F x.1 x.2.1 x.2.2.1 x.2.2.2.1 x.2.2.2.2) n
noncomputable def nest_Whole.b2.L (n : Nat) : Loop := ⟨⟨ofs 74 0 [(4, .val (.sl (.int .i64))), (6, .val (.int .i64)), (39, .val (.sl (.pair (.int .i64) (.pair (.int .i64) (.int .i64))))), (40, .val (.int .i64)), (41, .val (.int .i64))], []⟩, [(.ret, ⟨ofs 74 0 [(2, .val (.int .i64))], []⟩), (.exit 2, ⟨ofs 74 0 [], []⟩)], ((List Int) × Int × (List (Int × (Int × Int))) × Int × Int), fun x => ((x.1, x.2.1, x.2.2.1, x.2.2.2.1, x.2.2.2.2, ()), ()), fun (x : (((List Int) × Int × (List (Int × (Int × Int))) × Int × Int × Unit) × Unit)) => (x.1.1, x.1.2.1, x.1.2.2.1, x.1.2.2.2.1, x.1.2.2.2.2.1), (((Int × Unit) × Unit) ⊕ (Unit × Unit)), fun y => y, fun y => y, nest_Whole.b2.l n⟩
noncomputable def nest_Whole.f (n : Nat) (a0 : (List (Int × (Int × Int)))) : Option Int := (nest_scan.f n a0).bind fun y1 => (if (y1.2.2 != 0) then (some y1.2.2) else ((nest_Whole.b0.l n (a0, y1.2.1, (IntKind.wrap .i64 ((a0.length : Int) - 1)), a0, (a0.length : Int), 0)).bind fun y2 => ((Sum.elim (fun (z3 : ((Int × Unit) × Unit)) => (some z3.1.1)) (fun (z4 : (((List (Int × (Int × Int))) × (List Int) × Int × Unit) × Unit)) => ((nest_Whole.b2.l n (z4.1.2.1, z4.1.2.2.1, z4.1.1, (z4.1.1.length : Int), 0)).bind fun y13 => ((Sum.elim (fun (z14 : ((Int × Unit) × Unit)) => (some z14.1.1)) (fun (z15 : (Unit × Unit)) => (some 0))) y13)))) y2)))
noncomputable def nest_Whole.fs (n : Nat) : FS := ⟨⟨[.val (.sl (.pair (.int .i64) (.pair (.int .i64) (.int .i64))))], []⟩, ⟨[.val (.int .i64)], []⟩, Int, fun y => ((y, ()), ()), fun o => o.1.1, fun x => nest_Whole.f n x.1.1⟩
theorem nest_Whole.b0.e (n : Nat) : ∀ F x, evLoop (c6 n) 14 35 0 6 (nest_Whole.b0.L n) F x = nest_Whole.b0 n F x.1 x.2.1 x.2.2.1 x.2.2.2.1 x.2.2.2.2.1 x.2.2.2.2.2 := fun F x => by kernel_rfl
noncomputable def nest_Whole.b0.c (n : Nat) : Cx := Cx.addLoop (c6 n) 35 6 (nest_Whole.b0.L n)
theorem nest_Whole.b0.g (n : Nat) : Good (nest_Whole.b0.c n) := Good.loop (g6 n) 14 0 (by kernel_rfl) (nest_Whole.b0.e n) n (fun _ => rfl) (fun _ => rfl) (fun _ => rfl) rfl
theorem nest_Whole.j1.e (n : Nat) : ∀ x, evJoin (nest_Whole.b0.c n) 14 35 0 1000015 (nest_Whole.j1.L n) x = (nest_Whole.j1.L n).fn x := fun x => by kernel_rfl
noncomputable def nest_Whole.j1.c (n : Nat) : Cx := Cx.addLoop (nest_Whole.b0.c n) 35 1000015 (nest_Whole.j1.L n)
theorem nest_Whole.j1.g (n : Nat) : Good (nest_Whole.j1.c n) := Good.join (nest_Whole.b0.g n) 14 0 (by kernel_rfl) (nest_Whole.j1.e n) (fun _ => rfl) (fun _ => rfl) rfl
theorem nest_Whole.b2.e (n : Nat) : ∀ F x, evLoop (nest_Whole.j1.c n) 14 35 0 12 (nest_Whole.b2.L n) F x = nest_Whole.b2 n F x.1 x.2.1 x.2.2.1 x.2.2.2.1 x.2.2.2.2 := fun F x => by kernel_rfl
noncomputable def nest_Whole.b2.c (n : Nat) : Cx := Cx.addLoop (nest_Whole.j1.c n) 35 12 (nest_Whole.b2.L n)
theorem nest_Whole.b2.g (n : Nat) : Good (nest_Whole.b2.c n) := Good.loop (nest_Whole.j1.g n) 14 0 (by kernel_rfl) (nest_Whole.b2.e n) n (fun _ => rfl) (fun _ => rfl) (fun _ => rfl) rfl
theorem nest_Whole.e (n : Nat) : FnEq (nest_Whole.b2.c n) 14 35 0 (nest_Whole.fs n) := fun x => by kernel_rfl
noncomputable def c7 (n : Nat) : Cx := (Cx.bare (nest_Whole.b2.c n)).addSpec 35 (nest_Whole.fs n)
theorem g7 (n : Nat) : Good (c7 n) := Good.fn (nest_Whole.b2.g n) 14 0 (nest_Whole.e n) (fun _ => rfl) rfl
/-! ### nest_Held: function 13 -/
noncomputable def nest_Held.b0 (n : Nat) (F : ((List (Int × (Int × Int))) × (List Int) × (List Int) × Int × Int) → Option ((List Int))) (v5 : (List (Int × (Int × Int)))) (v6 : (List Int)) (v7 : (List Int)) (v8 : Int) (v9 : Int) : Option ((List Int)) := if (decide (v9 < v8)) then (if (decide (0 ≤ v9) && decide (v9 < (v6.length : Int))) then (if ((v6.getD v9.toNat (0 : Int)) == (-1)) then (F (v5, v6, v7, v8, (IntKind.wrap .i64 (v9 + 1)))) else (if (decide (0 ≤ (v6.getD v9.toNat (0 : Int))) && decide ((v6.getD v9.toNat (0 : Int)) < (v7.length : Int))) then (if (decide (0 ≤ v9) && decide (v9 < (v7.length : Int))) then (if (decide (0 ≤ (v6.getD v9.toNat (0 : Int))) && decide ((v6.getD v9.toNat (0 : Int)) < (v5.length : Int))) then (if ((v5.getD ((v6.getD v9.toNat (0 : Int))).toNat ((0 : Int), ((0 : Int), (0 : Int)))).1 == 23) then (if (decide (0 ≤ v9) && decide (v9 < (((v7.set v9.toNat (v7.getD ((v6.getD v9.toNat (0 : Int))).toNat (0 : Int))).length : Nat) : Int))) then (if (decide (0 ≤ (v6.getD v9.toNat (0 : Int))) && decide ((v6.getD v9.toNat (0 : Int)) < (v5.length : Int))) then (if decide ((v5.getD ((v6.getD v9.toNat (0 : Int))).toNat ((0 : Int), ((0 : Int), (0 : Int)))).2.1 < 0) then none else (if (decide (0 ≤ v9) && decide (v9 < (((v7.set v9.toNat (v7.getD ((v6.getD v9.toNat (0 : Int))).toNat (0 : Int))).length : Nat) : Int))) then (F (v5, v6, ((v7.set v9.toNat (v7.getD ((v6.getD v9.toNat (0 : Int))).toNat (0 : Int))).set v9.toNat (bits .or .i64 ((v7.set v9.toNat (v7.getD ((v6.getD v9.toNat (0 : Int))).toNat (0 : Int))).getD v9.toNat (0 : Int)) (IntKind.wrap .i64 (1 * 2 ^ (min ((v5.getD ((v6.getD v9.toNat (0 : Int))).toNat ((0 : Int), ((0 : Int), (0 : Int)))).2.1).toNat 64))))), v8, (IntKind.wrap .i64 (v9 + 1)))) else none)) else none) else none) else (F (v5, v6, (v7.set v9.toNat (v7.getD ((v6.getD v9.toNat (0 : Int))).toNat (0 : Int))), v8, (IntKind.wrap .i64 (v9 + 1))))) else none) else none) else none)) else none) else (some v7)
noncomputable def nest_Held.b0.l (n : Nat) : ((List (Int × (Int × Int))) × (List Int) × (List Int) × Int × Int) → Option ((List Int))   := it (fun F x => nest_Held.b0 n F x.1 x.2.1 x.2.2.1 x.2.2.2.1 x.2.2.2.2) n
noncomputable def nest_Held.b0.L (n : Nat) : Loop := ⟨⟨ofs 60 0 [(0, .val (.sl (.pair (.int .i64) (.pair (.int .i64) (.int .i64))))), (5, .val (.sl (.int .i64))), (7, .row 3 (.int .i64)), (23, .val (.int .i64)), (24, .val (.int .i64))], []⟩, [(.exit 0, ⟨ofs 60 0 [(7, .row 3 (.int .i64))], []⟩)], ((List (Int × (Int × Int))) × (List Int) × (List Int) × Int × Int), fun x => ((x.1, x.2.1, x.2.2.1, x.2.2.2.1, x.2.2.2.2, ()), ()), fun (x : (((List (Int × (Int × Int))) × (List Int) × (List Int) × Int × Int × Unit) × Unit)) => (x.1.1, x.1.2.1, x.1.2.2.1, x.1.2.2.2.1, x.1.2.2.2.2.1), (List Int), fun y => ((y, ()), ()), fun (o : (((List Int) × Unit) × Unit)) => o.1.1, nest_Held.b0.l n⟩
noncomputable def nest_Held.f (n : Nat) (a0 : (List (Int × (Int × Int)))) : Option ((List Int) × Int) := (nest_scan.f n a0).bind fun y1 => (if (y1.2.2 != 0) then (some ([], y1.2.2)) else (if (decide (0 ≤ (a0.length : Int)) && ((a0.length : Int) == (a0.length : Int)) && decide ((a0.length : Int) * (8 : Int) ≤ 140737488355328) && decide (1 ≤ 8)) then ((nest_Held.b0.l n (a0, y1.2.1, (List.replicate ((a0.length : Int)).toNat (0 : Int)), (a0.length : Int), 0)).bind fun y2 => (some (y2, 0))) else none))
noncomputable def nest_Held.fs (n : Nat) : FS := ⟨⟨[.val (.sl (.pair (.int .i64) (.pair (.int .i64) (.int .i64))))], []⟩, ⟨[.val (.sl (.int .i64)), .val (.int .i64)], []⟩, ((List Int) × Int), fun y => ((y.1, y.2, ()), ()), fun o => (o.1.1, o.1.2.1), fun x => nest_Held.f n x.1.1⟩
theorem nest_Held.b0.e (n : Nat) : ∀ F x, evLoop (c7 n) 14 13 0 6 (nest_Held.b0.L n) F x = nest_Held.b0 n F x.1 x.2.1 x.2.2.1 x.2.2.2.1 x.2.2.2.2 := fun F x => by kernel_rfl
noncomputable def nest_Held.b0.c (n : Nat) : Cx := Cx.addLoop (c7 n) 13 6 (nest_Held.b0.L n)
theorem nest_Held.b0.g (n : Nat) : Good (nest_Held.b0.c n) := Good.loop (g7 n) 14 0 (by kernel_rfl) (nest_Held.b0.e n) n (fun _ => rfl) (fun _ => rfl) (fun _ => rfl) rfl
theorem nest_Held.e (n : Nat) : FnEq (nest_Held.b0.c n) 14 13 0 (nest_Held.fs n) := fun x => by kernel_rfl
noncomputable def c8 (n : Nat) : Cx := (Cx.bare (nest_Held.b0.c n)).addSpec 13 (nest_Held.fs n)
theorem g8 (n : Nat) : Good (c8 n) := Good.fn (nest_Held.b0.g n) 14 0 (nest_Held.e n) (fun _ => rfl) rfl
/-! ### nest_Home: function 22 -/
noncomputable def nest_Home.f (n : Nat) (a0 : (List (Int × (Int × Int)))) : Option ((List Int) × Int) := (nest_scan.f n a0).bind fun y1 => (some (y1.2.1, y1.2.2))
noncomputable def nest_Home.fs (n : Nat) : FS := ⟨⟨[.val (.sl (.pair (.int .i64) (.pair (.int .i64) (.int .i64))))], []⟩, ⟨[.val (.sl (.int .i64)), .val (.int .i64)], []⟩, ((List Int) × Int), fun y => ((y.1, y.2, ()), ()), fun o => (o.1.1, o.1.2.1), fun x => nest_Home.f n x.1.1⟩
theorem nest_Home.e (n : Nat) : FnEq (c8 n) 14 22 0 (nest_Home.fs n) := fun x => by kernel_rfl
noncomputable def c9 (n : Nat) : Cx := (Cx.bare (c8 n)).addSpec 22 (nest_Home.fs n)
theorem g9 (n : Nat) : Good (c9 n) := Good.fn (g8 n) 14 0 (nest_Home.e n) (fun _ => rfl) rfl
/-! ### nest_looped: function 49 -/
noncomputable def nest_looped.b0 (n : Nat) (F : ((List (Int × (Int × Int))) × (List Int) × Int) → Option ((((Bool × Unit) × Unit) ⊕ (Unit × Unit)))) (v1 : (List (Int × (Int × Int)))) (v2 : (List Int)) (v3 : Int) : Option ((((Bool × Unit) × Unit) ⊕ (Unit × Unit))) := if (v3 != (-1)) then (if (decide (0 ≤ v3) && decide (v3 < (v1.length : Int))) then (if ((v1.getD v3.toNat ((0 : Int), ((0 : Int), (0 : Int)))).1 == 21) then (some (.inl ((true, ()), ()))) else (if (decide (0 ≤ v3) && decide (v3 < (v2.length : Int))) then (F (v1, v2, (v2.getD v3.toNat (0 : Int)))) else none)) else none) else (some (.inr ((), ())))
noncomputable def nest_looped.b0.l (n : Nat) : ((List (Int × (Int × Int))) × (List Int) × Int) → Option ((((Bool × Unit) × Unit) ⊕ (Unit × Unit)))   := it (fun F x => nest_looped.b0 n F x.1 x.2.1 x.2.2) n
noncomputable def nest_looped.b0.L (n : Nat) : Loop := ⟨⟨ofs 24 0 [(0, .val (.sl (.pair (.int .i64) (.pair (.int .i64) (.int .i64))))), (1, .val (.sl (.int .i64))), (7, .val (.int .i64))], []⟩, [(.ret, ⟨ofs 24 0 [(6, .val .bool)], []⟩), (.exit 0, ⟨ofs 24 0 [], []⟩)], ((List (Int × (Int × Int))) × (List Int) × Int), fun x => ((x.1, x.2.1, x.2.2, ()), ()), fun (x : (((List (Int × (Int × Int))) × (List Int) × Int × Unit) × Unit)) => (x.1.1, x.1.2.1, x.1.2.2.1), (((Bool × Unit) × Unit) ⊕ (Unit × Unit)), fun y => y, fun y => y, nest_looped.b0.l n⟩
noncomputable def nest_looped.f (n : Nat) (a0 : (List (Int × (Int × Int)))) (a1 : (List Int)) (a2 : Int) : Option Bool := if (decide (0 ≤ a2) && decide (a2 < (a1.length : Int))) then ((nest_looped.b0.l n (a0, a1, (a1.getD a2.toNat (0 : Int)))).bind fun y4 => ((Sum.elim (fun (z5 : ((Bool × Unit) × Unit)) => (some z5.1.1)) (fun (z6 : (Unit × Unit)) => (some false))) y4)) else none
noncomputable def nest_looped.fs (n : Nat) : FS := ⟨⟨[.val (.sl (.pair (.int .i64) (.pair (.int .i64) (.int .i64)))), .val (.sl (.int .i64)), .val (.int .i64)], []⟩, ⟨[.val .bool], []⟩, Bool, fun y => ((y, ()), ()), fun o => o.1.1, fun x => nest_looped.f n x.1.1 x.1.2.1 x.1.2.2.1⟩
theorem nest_looped.b0.e (n : Nat) : ∀ F x, evLoop (c9 n) 14 49 0 2 (nest_looped.b0.L n) F x = nest_looped.b0 n F x.1 x.2.1 x.2.2 := fun F x => by kernel_rfl
noncomputable def nest_looped.b0.c (n : Nat) : Cx := Cx.addLoop (c9 n) 49 2 (nest_looped.b0.L n)
theorem nest_looped.b0.g (n : Nat) : Good (nest_looped.b0.c n) := Good.loop (g9 n) 14 0 (by kernel_rfl) (nest_looped.b0.e n) n (fun _ => rfl) (fun _ => rfl) (fun _ => rfl) rfl
theorem nest_looped.e (n : Nat) : FnEq (nest_looped.b0.c n) 14 49 0 (nest_looped.fs n) := fun x => by kernel_rfl
noncomputable def c10 (n : Nat) : Cx := (Cx.bare (nest_looped.b0.c n)).addSpec 49 (nest_looped.fs n)
theorem g10 (n : Nat) : Good (c10 n) := Good.fn (nest_looped.b0.g n) 14 0 (nest_looped.e n) (fun _ => rfl) rfl
/-! ### nest_Locks: function 33 -/
noncomputable def nest_Locks.j0 (n : Nat) (v17 : (List (Int × (Int × Int)))) (v18 : (List Int)) (v19 : (List Int)) (v20 : (List Int)) (v21 : Bool) (v22 : Int) (v23 : Bool) (v24 : (List (Int × (Int × Int)))) (v25 : Int) (v26 : Int) (v27 : Int) (v28 : Int) (v29 : Int) : Option (((List (Int × (Int × Int))) × (List Int) × (List Int) × (List Int) × Bool × Bool × (List (Int × (Int × Int))) × Int × Int × Int × Int × Int)) := if (v27 == 23) then (if (!v21) then (if (decide (0 ≤ v22) && decide (v22 < (v18.length : Int))) then (if decide (v28 < 0) then none else (if (((v18.getD v22.toNat (0 : Int)).fdiv (2 ^ (min v28.toNat 64))) == 0) then ((nest_looped.f n v17 v19 v22).bind fun y30 => (if (decide ((v20.length + 1) * 8 ≤ 140737488355328) && decide (1 ≤ 8)) then (some (v17, v18, v19, (v20 ++ [v28]), v21, (!y30), v24, v25, v26, v27, v28, v29)) else none)) else (if (decide ((v20.length + 1) * 8 ≤ 140737488355328) && decide (1 ≤ 8)) then (some (v17, v18, v19, (v20 ++ [v28]), v21, false, v24, v25, v26, v27, v28, v29)) else none))) else none) else (if (decide ((v20.length + 1) * 8 ≤ 140737488355328) && decide (1 ≤ 8)) then (some (v17, v18, v19, (v20 ++ [v28]), v21, false, v24, v25, v26, v27, v28, v29)) else none)) else (if (v27 == 24) then (some (v17, v18, v19, v20, true, v23, v24, v25, v26, v27, v28, v29)) else (if (v27 == 17) then (if (decide (0 ≤ v22) && decide (v22 < (v18.length : Int))) then (if decide (v28 < 0) then none else (some (v17, v18, v19, v20, v21, ((bits .and .i64 ((v18.getD v22.toNat (0 : Int)).fdiv (2 ^ (min v28.toNat 64))) 1) == 1), v24, v25, v26, v27, v28, v29))) else none) else (if (v27 == 18) then (if (decide (0 ≤ v22) && decide (v22 < (v18.length : Int))) then (if decide (v28 < 0) then none else (some (v17, v18, v19, v20, v21, ((bits .and .i64 ((v18.getD v22.toNat (0 : Int)).fdiv (2 ^ (min v28.toNat 64))) 1) == 1), v24, v25, v26, v27, v28, v29))) else none) else (some (v17, v18, v19, v20, v21, v23, v24, v25, v26, v27, v28, v29)))))
noncomputable def nest_Locks.j0.L (n : Nat) : Loop := ⟨⟨ofs 82 0 [(0, .val (.sl (.pair (.int .i64) (.pair (.int .i64) (.int .i64))))), (5, .val (.sl (.int .i64))), (7, .val (.sl (.int .i64))), (9, .row 3 (.int .i64)), (10, .val .bool), (11, .val (.int .i64)), (12, .obj 0), (13, .val .bool), (29, .val (.sl (.pair (.int .i64) (.pair (.int .i64) (.int .i64))))), (30, .val (.int .i64)), (31, .val (.int .i64))], [[.val (.int .i64), .val (.int .i64), .val (.int .i64)]]⟩, [(.norm, ⟨ofs 82 0 [(0, .val (.sl (.pair (.int .i64) (.pair (.int .i64) (.int .i64))))), (5, .val (.sl (.int .i64))), (7, .val (.sl (.int .i64))), (9, .row 3 (.int .i64)), (10, .val .bool), (13, .val .bool), (29, .val (.sl (.pair (.int .i64) (.pair (.int .i64) (.int .i64))))), (30, .val (.int .i64)), (31, .val (.int .i64))], [[.val (.int .i64), .val (.int .i64), .val (.int .i64)]]⟩)], ((List (Int × (Int × Int))) × (List Int) × (List Int) × (List Int) × Bool × Int × Bool × (List (Int × (Int × Int))) × Int × Int × Int × Int × Int), fun x => ((x.1, x.2.1, x.2.2.1, x.2.2.2.1, x.2.2.2.2.1, x.2.2.2.2.2.1, x.2.2.2.2.2.2.1, x.2.2.2.2.2.2.2.1, x.2.2.2.2.2.2.2.2.1, x.2.2.2.2.2.2.2.2.2.1, ()), ((x.2.2.2.2.2.2.2.2.2.2.1, x.2.2.2.2.2.2.2.2.2.2.2.1, x.2.2.2.2.2.2.2.2.2.2.2.2, ()), ())), fun (x : (((List (Int × (Int × Int))) × (List Int) × (List Int) × (List Int) × Bool × Int × Bool × (List (Int × (Int × Int))) × Int × Int × Unit) × ((Int × Int × Int × Unit) × Unit))) => (x.1.1, x.1.2.1, x.1.2.2.1, x.1.2.2.2.1, x.1.2.2.2.2.1, x.1.2.2.2.2.2.1, x.1.2.2.2.2.2.2.1, x.1.2.2.2.2.2.2.2.1, x.1.2.2.2.2.2.2.2.2.1, x.1.2.2.2.2.2.2.2.2.2.1, x.2.1.1, x.2.1.2.1, x.2.1.2.2.1), ((List (Int × (Int × Int))) × (List Int) × (List Int) × (List Int) × Bool × Bool × (List (Int × (Int × Int))) × Int × Int × Int × Int × Int), fun y => ((y.1, y.2.1, y.2.2.1, y.2.2.2.1, y.2.2.2.2.1, y.2.2.2.2.2.1, y.2.2.2.2.2.2.1, y.2.2.2.2.2.2.2.1, y.2.2.2.2.2.2.2.2.1, ()), ((y.2.2.2.2.2.2.2.2.2.1, y.2.2.2.2.2.2.2.2.2.2.1, y.2.2.2.2.2.2.2.2.2.2.2, ()), ())), fun (o : (((List (Int × (Int × Int))) × (List Int) × (List Int) × (List Int) × Bool × Bool × (List (Int × (Int × Int))) × Int × Int × Unit) × ((Int × Int × Int × Unit) × Unit))) => (o.1.1, o.1.2.1, o.1.2.2.1, o.1.2.2.2.1, o.1.2.2.2.2.1, o.1.2.2.2.2.2.1, o.1.2.2.2.2.2.2.1, o.1.2.2.2.2.2.2.2.1, o.1.2.2.2.2.2.2.2.2.1, o.2.1.1, o.2.1.2.1, o.2.1.2.2.1), fun x => nest_Locks.j0 n x.1 x.2.1 x.2.2.1 x.2.2.2.1 x.2.2.2.2.1 x.2.2.2.2.2.1 x.2.2.2.2.2.2.1 x.2.2.2.2.2.2.2.1 x.2.2.2.2.2.2.2.2.1 x.2.2.2.2.2.2.2.2.2.1 x.2.2.2.2.2.2.2.2.2.2.1 x.2.2.2.2.2.2.2.2.2.2.2.1 x.2.2.2.2.2.2.2.2.2.2.2.2⟩
noncomputable def nest_Locks.b1 (n : Nat) (F : ((List (Int × (Int × Int))) × (List Int) × (List Int) × (List Int) × Bool × (List (Int × (Int × Int))) × Int × Int) → Option (((((List Int) × Int × Unit) × Unit) ⊕ (((List Int) × Unit) × Unit)))) (v9 : (List (Int × (Int × Int)))) (v10 : (List Int)) (v11 : (List Int)) (v12 : (List Int)) (v13 : Bool) (v14 : (List (Int × (Int × Int)))) (v15 : Int) (v16 : Int) : Option (((((List Int) × Int × Unit) × Unit) ⊕ (((List Int) × Unit) × Unit))) := if (decide (v16 < v15)) then (if (decide (0 ≤ v16) && decide (v16 < (v14.length : Int))) then ((nest_Locks.j0 n v9 v10 v11 v12 v13 v16 true v14 v15 v16 ((v14.getD v16.toNat ((0 : Int), ((0 : Int), (0 : Int)))).1) ((v14.getD v16.toNat ((0 : Int), ((0 : Int), (0 : Int)))).2.1) ((v14.getD v16.toNat ((0 : Int), ((0 : Int), (0 : Int)))).2.2)).bind fun y17 => (if (!y17.2.2.2.2.2.1) then (some (.inl (([], 11, ()), ()))) else (F (y17.1, y17.2.1, y17.2.2.1, y17.2.2.2.1, y17.2.2.2.2.1, y17.2.2.2.2.2.2.1, y17.2.2.2.2.2.2.2.1, (IntKind.wrap .i64 (y17.2.2.2.2.2.2.2.2.1 + 1)))))) else none) else (some (.inr ((v12, ()), ())))
noncomputable def nest_Locks.b1.l (n : Nat) : ((List (Int × (Int × Int))) × (List Int) × (List Int) × (List Int) × Bool × (List (Int × (Int × Int))) × Int × Int) → Option (((((List Int) × Int × Unit) × Unit) ⊕ (((List Int) × Unit) × Unit)))   := it (fun F x => nest_Locks.b1 n F x.1 x.2.1 x.2.2.1 x.2.2.2.1 x.2.2.2.2.1 x.2.2.2.2.2.1 x.2.2.2.2.2.2.1 x.2.2.2.2.2.2.2) n
noncomputable def nest_Locks.b1.L (n : Nat) : Loop := ⟨⟨ofs 82 0 [(0, .val (.sl (.pair (.int .i64) (.pair (.int .i64) (.int .i64))))), (5, .val (.sl (.int .i64))), (7, .val (.sl (.int .i64))), (9, .row 3 (.int .i64)), (10, .val .bool), (29, .val (.sl (.pair (.int .i64) (.pair (.int .i64) (.int .i64))))), (30, .val (.int .i64)), (31, .val (.int .i64))], []⟩, [(.ret, ⟨ofs 82 0 [(2, .row 3 (.int .i64)), (3, .val (.int .i64))], []⟩), (.exit 0, ⟨ofs 82 0 [(9, .row 3 (.int .i64))], []⟩)], ((List (Int × (Int × Int))) × (List Int) × (List Int) × (List Int) × Bool × (List (Int × (Int × Int))) × Int × Int), fun x => ((x.1, x.2.1, x.2.2.1, x.2.2.2.1, x.2.2.2.2.1, x.2.2.2.2.2.1, x.2.2.2.2.2.2.1, x.2.2.2.2.2.2.2, ()), ()), fun (x : (((List (Int × (Int × Int))) × (List Int) × (List Int) × (List Int) × Bool × (List (Int × (Int × Int))) × Int × Int × Unit) × Unit)) => (x.1.1, x.1.2.1, x.1.2.2.1, x.1.2.2.2.1, x.1.2.2.2.2.1, x.1.2.2.2.2.2.1, x.1.2.2.2.2.2.2.1, x.1.2.2.2.2.2.2.2.1), ((((List Int) × Int × Unit) × Unit) ⊕ (((List Int) × Unit) × Unit)), fun y => y, fun y => y, nest_Locks.b1.l n⟩
noncomputable def nest_Locks.f (n : Nat) (a0 : (List (Int × (Int × Int)))) : Option ((List Int) × Int) := (nest_Whole.f n a0).bind fun y1 => (if (y1 != 0) then (some ([], y1)) else ((nest_Held.f n a0).bind fun y2 => ((nest_Home.f n a0).bind fun y3 => ((nest_Locks.b1.l n (a0, y2.1, y3.1, [], false, a0, (a0.length : Int), 0)).bind fun y4 => ((Sum.elim (fun (z5 : (((List Int) × Int × Unit) × Unit)) => (some (z5.1.1, z5.1.2.1))) (fun (z6 : (((List Int) × Unit) × Unit)) => (some (z6.1.1, 0)))) y4)))))
noncomputable def nest_Locks.fs (n : Nat) : FS := ⟨⟨[.val (.sl (.pair (.int .i64) (.pair (.int .i64) (.int .i64))))], []⟩, ⟨[.val (.sl (.int .i64)), .val (.int .i64)], []⟩, ((List Int) × Int), fun y => ((y.1, y.2, ()), ()), fun o => (o.1.1, o.1.2.1), fun x => nest_Locks.f n x.1.1⟩
theorem nest_Locks.j0.e (n : Nat) : ∀ x, evJoin (c10 n) 14 33 0 1000021 (nest_Locks.j0.L n) x = (nest_Locks.j0.L n).fn x := fun x => by kernel_rfl
noncomputable def nest_Locks.j0.c (n : Nat) : Cx := Cx.addLoop (c10 n) 33 1000021 (nest_Locks.j0.L n)
theorem nest_Locks.j0.g (n : Nat) : Good (nest_Locks.j0.c n) := Good.join (g10 n) 14 0 (by kernel_rfl) (nest_Locks.j0.e n) (fun _ => rfl) (fun _ => rfl) rfl
theorem nest_Locks.b1.e (n : Nat) : ∀ F x, evLoop (nest_Locks.j0.c n) 14 33 0 9 (nest_Locks.b1.L n) F x = nest_Locks.b1 n F x.1 x.2.1 x.2.2.1 x.2.2.2.1 x.2.2.2.2.1 x.2.2.2.2.2.1 x.2.2.2.2.2.2.1 x.2.2.2.2.2.2.2 := fun F x => by kernel_rfl
noncomputable def nest_Locks.b1.c (n : Nat) : Cx := Cx.addLoop (nest_Locks.j0.c n) 33 9 (nest_Locks.b1.L n)
theorem nest_Locks.b1.g (n : Nat) : Good (nest_Locks.b1.c n) := Good.loop (nest_Locks.j0.g n) 14 0 (by kernel_rfl) (nest_Locks.b1.e n) n (fun _ => rfl) (fun _ => rfl) (fun _ => rfl) rfl
theorem nest_Locks.e (n : Nat) : FnEq (nest_Locks.b1.c n) 14 33 0 (nest_Locks.fs n) := fun x => by kernel_rfl
noncomputable def c11 (n : Nat) : Cx := (Cx.bare (nest_Locks.b1.c n)).addSpec 33 (nest_Locks.fs n)
theorem g11 (n : Nat) : Good (c11 n) := Good.fn (nest_Locks.b1.g n) 14 0 (nest_Locks.e n) (fun _ => rfl) rfl
/-! ### nest_Match: function 34 -/
noncomputable def nest_Match.f (n : Nat) (a0 : (List (Int × (Int × Int)))) : Option ((List Int) × Int) := (nest_scan.f n a0).bind fun y1 => (some (y1.1, y1.2.2))
noncomputable def nest_Match.fs (n : Nat) : FS := ⟨⟨[.val (.sl (.pair (.int .i64) (.pair (.int .i64) (.int .i64))))], []⟩, ⟨[.val (.sl (.int .i64)), .val (.int .i64)], []⟩, ((List Int) × Int), fun y => ((y.1, y.2, ()), ()), fun o => (o.1.1, o.1.2.1), fun x => nest_Match.f n x.1.1⟩
theorem nest_Match.e (n : Nat) : FnEq (c11 n) 14 34 0 (nest_Match.fs n) := fun x => by kernel_rfl
noncomputable def c12 (n : Nat) : Cx := (Cx.bare (c11 n)).addSpec 34 (nest_Match.fs n)
theorem g12 (n : Nat) : Good (c12 n) := Good.fn (g11 n) 14 0 (nest_Match.e n) (fun _ => rfl) rfl
/-! ### types_Takes: function 81 -/
noncomputable def types_Takes.f (n : Nat) (a0 : (Int × (Int × Int))) : Option ByteArray := (op_Right.f n (a0.1, (a0.2.1, a0.2.2))).bind fun y1 => (if (!y1) then (some (ByteArray.mk #[])) else (if ((a0.1 == 1) || ((a0.1 == 11) || ((a0.1 == 13) || ((a0.1 == 15) || ((a0.1 == 17) || false))))) then (some (ByteArray.mk #[])) else (if ((a0.1 == 12) || ((a0.1 == 14) || ((a0.1 == 16) || ((a0.1 == 18) || false)))) then (some (ByteArray.mk #[105])) else (if ((a0.1 == 2) || false) then (some (ByteArray.mk #[32])) else (if ((a0.1 == 3) || false) then (some (ByteArray.mk #[32])) else (if ((a0.1 == 4) || false) then (some (ByteArray.mk #[32, 32])) else (if ((a0.1 == 5) || false) then (some (ByteArray.mk #[105, 105])) else (if ((a0.1 == 6) || false) then (some (ByteArray.mk #[105])) else (if ((a0.1 == 7) || false) then (some (ByteArray.mk #[98])) else (if ((a0.1 == 8) || ((a0.1 == 9) || false)) then (some (ByteArray.mk #[98, 98])) else (if ((a0.1 == 10) || false) then (some (ByteArray.mk #[98])) else (if ((a0.1 == 20) || false) then (some (ByteArray.mk #[98])) else (some ByteArray.empty)))))))))))))
noncomputable def types_Takes.fs (n : Nat) : FS := ⟨⟨[.val (.pair (.int .i64) (.pair (.int .i64) (.int .i64)))], []⟩, ⟨[.val .str], []⟩, ByteArray, fun y => ((y, ()), ()), fun o => o.1.1, fun x => types_Takes.f n x.1.1⟩
theorem types_Takes.e (n : Nat) : FnEq (c12 n) 14 81 0 (types_Takes.fs n) := fun x => by kernel_rfl
noncomputable def c13 (n : Nat) : Cx := (Cx.bare (c12 n)).addSpec 81 (types_Takes.fs n)
theorem g13 (n : Nat) : Good (c13 n) := Good.fn (g12 n) 14 0 (types_Takes.e n) (fun _ => rfl) rfl
/-! ### types_fits: function 82 -/
noncomputable def types_fits.b0 (n : Nat) (F : (ByteArray × ByteArray × Int × Int) → Option ((((Bool × Unit) × Unit) ⊕ (Unit × Unit)))) (v1 : ByteArray) (v2 : ByteArray) (v3 : Int) (v4 : Int) : Option ((((Bool × Unit) × Unit) ⊕ (Unit × Unit))) := if (decide (v4 < v3)) then (if (decide (0 ≤ v4) && decide (v4 < (v2.size : Int))) then (if (decide (0 ≤ 0) && decide (0 < (((ByteArray.mk #[32]).size : Nat) : Int))) then (if ((bt v2 v4) != (bt (ByteArray.mk #[32]) 0)) then (if (decide (0 ≤ v4) && decide (v4 < (v2.size : Int))) then (if (decide (0 ≤ v4) && decide (v4 < (v1.size : Int))) then (if ((bt v2 v4) != (bt v1 v4)) then (some (.inl ((false, ()), ()))) else (F (v1, v2, v3, (IntKind.wrap .i64 (v4 + 1))))) else none) else none) else (F (v1, v2, v3, (IntKind.wrap .i64 (v4 + 1))))) else none) else none) else (some (.inr ((), ())))
noncomputable def types_fits.b0.l (n : Nat) : (ByteArray × ByteArray × Int × Int) → Option ((((Bool × Unit) × Unit) ⊕ (Unit × Unit)))   := it (fun F x => types_fits.b0 n F x.1 x.2.1 x.2.2.1 x.2.2.2) n
noncomputable def types_fits.b0.L (n : Nat) : Loop := ⟨⟨ofs 31 0 [(0, .val .str), (1, .val .str), (12, .val (.int .i64)), (13, .val (.int .i64))], []⟩, [(.ret, ⟨ofs 31 0 [(4, .val .bool)], []⟩), (.exit 0, ⟨ofs 31 0 [], []⟩)], (ByteArray × ByteArray × Int × Int), fun x => ((x.1, x.2.1, x.2.2.1, x.2.2.2, ()), ()), fun (x : ((ByteArray × ByteArray × Int × Int × Unit) × Unit)) => (x.1.1, x.1.2.1, x.1.2.2.1, x.1.2.2.2.1), (((Bool × Unit) × Unit) ⊕ (Unit × Unit)), fun y => y, fun y => y, types_fits.b0.l n⟩
noncomputable def types_fits.f (n : Nat) (a0 : ByteArray) (a1 : ByteArray) : Option Bool := if ((a0.size : Int) != (a1.size : Int)) then (some false) else ((types_fits.b0.l n (a0, a1, (a1.size : Int), 0)).bind fun y5 => ((Sum.elim (fun (z6 : ((Bool × Unit) × Unit)) => (some z6.1.1)) (fun (z7 : (Unit × Unit)) => (some true))) y5))
noncomputable def types_fits.fs (n : Nat) : FS := ⟨⟨[.val .str, .val .str], []⟩, ⟨[.val .bool], []⟩, Bool, fun y => ((y, ()), ()), fun o => o.1.1, fun x => types_fits.f n x.1.1 x.1.2.1⟩
theorem types_fits.b0.e (n : Nat) : ∀ F x, evLoop (c13 n) 14 82 0 4 (types_fits.b0.L n) F x = types_fits.b0 n F x.1 x.2.1 x.2.2.1 x.2.2.2 := fun F x => by kernel_rfl
noncomputable def types_fits.b0.c (n : Nat) : Cx := Cx.addLoop (c13 n) 82 4 (types_fits.b0.L n)
theorem types_fits.b0.g (n : Nat) : Good (types_fits.b0.c n) := Good.loop (g13 n) 14 0 (by kernel_rfl) (types_fits.b0.e n) n (fun _ => rfl) (fun _ => rfl) (fun _ => rfl) rfl
theorem types_fits.e (n : Nat) : FnEq (types_fits.b0.c n) 14 82 0 (types_fits.fs n) := fun x => by kernel_rfl
noncomputable def c14 (n : Nat) : Cx := (Cx.bare (types_fits.b0.c n)).addSpec 82 (types_fits.fs n)
theorem g14 (n : Nat) : Good (c14 n) := Good.fn (types_fits.b0.g n) 14 0 (types_fits.e n) (fun _ => rfl) rfl
/-! ### types_effects_1: function 96 -/
noncomputable def types_effects_1.f (n : Nat) (a0 : (Int × (Int × Int))) (a1 : ByteArray) : Option ByteArray := if decide (a1.size + a1.size ≤ 140737488351232) then (some (a1 ++ a1)) else none
noncomputable def types_effects_1.fs (n : Nat) : FS := ⟨⟨[.val (.pair (.int .i64) (.pair (.int .i64) (.int .i64))), .val .str], []⟩, ⟨[.val .str], []⟩, ByteArray, fun y => ((y, ()), ()), fun o => o.1.1, fun x => types_effects_1.f n x.1.1 x.1.2.1⟩
theorem types_effects_1.e (n : Nat) : FnEq (c14 n) 14 96 0 (types_effects_1.fs n) := fun x => by kernel_rfl
noncomputable def c15 (n : Nat) : Cx := (Cx.bare (c14 n)).addSpec 96 (types_effects_1.fs n)
theorem g15 (n : Nat) : Good (c15 n) := Good.fn (g14 n) 14 0 (types_effects_1.e n) (fun _ => rfl) rfl
end Go.Proofs.Dk

/- What the functions of the program do, read off their text. -/
namespace Go.Proofs.Dk
open Go
set_option maxRecDepth 100000
set_option linter.unusedVariables false
/-! ### types_effects_2: function 97 -/
noncomputable def types_effects_2.f (n : Nat) (a0 : (Int × (Int × Int))) (a1 : ByteArray) : Option ByteArray := if (decide (0 ≤ 1) && decide (1 ≤ (a1.size : Int))) then (if (decide (0 ≤ 1) && decide (1 ≤ (a1.size : Int))) then (if decide ((a1.extract 1 a1.size).size + (a1.extract 0 1).size ≤ 140737488351232) then (some ((a1.extract 1 a1.size) ++ (a1.extract 0 1))) else none) else none) else none
noncomputable def types_effects_2.fs (n : Nat) : FS := ⟨⟨[.val (.pair (.int .i64) (.pair (.int .i64) (.int .i64))), .val .str], []⟩, ⟨[.val .str], []⟩, ByteArray, fun y => ((y, ()), ()), fun o => o.1.1, fun x => types_effects_2.f n x.1.1 x.1.2.1⟩
theorem types_effects_2.e (n : Nat) : FnEq (c15 n) 14 97 0 (types_effects_2.fs n) := fun x => by kernel_rfl
noncomputable def c16 (n : Nat) : Cx := (Cx.bare (c15 n)).addSpec 97 (types_effects_2.fs n)
theorem g16 (n : Nat) : Good (c16 n) := Good.fn (g15 n) 14 0 (types_effects_2.e n) (fun _ => rfl) rfl
/-! ### types_two: function 98 -/
noncomputable def types_two.f (n : Nat) (a0 : (Int × (Int × Int))) (a1 : ByteArray) : Option ByteArray := if (a0.2.1 == 11) then (some (ByteArray.mk #[98])) else (if (a0.2.1 == 12) then (some (ByteArray.mk #[98])) else (some (ByteArray.mk #[105])))
noncomputable def types_two.fs (n : Nat) : FS := ⟨⟨[.val (.pair (.int .i64) (.pair (.int .i64) (.int .i64))), .val .str], []⟩, ⟨[.val .str], []⟩, ByteArray, fun y => ((y, ()), ()), fun o => o.1.1, fun x => types_two.f n x.1.1 x.1.2.1⟩
theorem types_two.e (n : Nat) : FnEq (c16 n) 14 98 0 (types_two.fs n) := fun x => by kernel_rfl
noncomputable def c17 (n : Nat) : Cx := (Cx.bare (c16 n)).addSpec 98 (types_two.fs n)
theorem g17 (n : Nat) : Good (c17 n) := Good.fn (g16 n) 14 0 (types_two.e n) (fun _ => rfl) rfl
/-! ### types_Gives: function 83 -/
noncomputable def types_Gives.f (n : Nat) (a0 : (Int × (Int × Int))) (a1 : ByteArray) : Option ByteArray := if ((a0.1 == 1) || ((a0.1 == 11) || ((a0.1 == 13) || ((a0.1 == 15) || ((a0.1 == 17) || false))))) then ((op_Right.f n (a0.1, (a0.2.1, a0.2.2))).bind fun y1 => (if (!y1) then (some (ByteArray.mk #[])) else ((types_fits.f n a1 (ByteArray.mk #[])).bind fun y2 => (if (!y2) then (some (ByteArray.mk #[])) else (some (ByteArray.mk #[105])))))) else (if ((a0.1 == 12) || ((a0.1 == 14) || ((a0.1 == 16) || ((a0.1 == 18) || false)))) then ((op_Right.f n (a0.1, (a0.2.1, a0.2.2))).bind fun y3 => (if (!y3) then (some (ByteArray.mk #[])) else ((types_fits.f n a1 (ByteArray.mk #[105])).bind fun y4 => (if (!y4) then (some (ByteArray.mk #[])) else (some (ByteArray.mk #[])))))) else (if ((a0.1 == 2) || false) then ((op_Right.f n (a0.1, (a0.2.1, a0.2.2))).bind fun y5 => (if (!y5) then (some (ByteArray.mk #[])) else ((types_fits.f n a1 (ByteArray.mk #[32])).bind fun y6 => (if (!y6) then (some (ByteArray.mk #[])) else (some (ByteArray.mk #[])))))) else (if ((a0.1 == 3) || false) then ((op_Right.f n (a0.1, (a0.2.1, a0.2.2))).bind fun y7 => (if (!y7) then (some (ByteArray.mk #[])) else ((types_fits.f n a1 (ByteArray.mk #[32])).bind fun y8 => (if (!y8) then (some (ByteArray.mk #[])) else ((types_effects_1.f n (a0.1, (a0.2.1, a0.2.2)) a1).bind fun y9 => (some y9)))))) else (if ((a0.1 == 4) || false) then ((op_Right.f n (a0.1, (a0.2.1, a0.2.2))).bind fun y10 => (if (!y10) then (some (ByteArray.mk #[])) else ((types_fits.f n a1 (ByteArray.mk #[32, 32])).bind fun y11 => (if (!y11) then (some (ByteArray.mk #[])) else ((types_effects_2.f n (a0.1, (a0.2.1, a0.2.2)) a1).bind fun y12 => (some y12)))))) else (if ((a0.1 == 5) || false) then ((op_Right.f n (a0.1, (a0.2.1, a0.2.2))).bind fun y13 => (if (!y13) then (some (ByteArray.mk #[])) else ((types_fits.f n a1 (ByteArray.mk #[105, 105])).bind fun y14 => (if (!y14) then (some (ByteArray.mk #[])) else ((types_two.f n (a0.1, (a0.2.1, a0.2.2)) a1).bind fun y15 => (some y15)))))) else (if ((a0.1 == 6) || false) then ((op_Right.f n (a0.1, (a0.2.1, a0.2.2))).bind fun y16 => (if (!y16) then (some (ByteArray.mk #[])) else ((types_fits.f n a1 (ByteArray.mk #[105])).bind fun y17 => (if (!y17) then (some (ByteArray.mk #[])) else (some (ByteArray.mk #[105])))))) else (if ((a0.1 == 7) || false) then ((op_Right.f n (a0.1, (a0.2.1, a0.2.2))).bind fun y18 => (if (!y18) then (some (ByteArray.mk #[])) else ((types_fits.f n a1 (ByteArray.mk #[98])).bind fun y19 => (if (!y19) then (some (ByteArray.mk #[])) else (some (ByteArray.mk #[98])))))) else (if ((a0.1 == 8) || ((a0.1 == 9) || false)) then ((op_Right.f n (a0.1, (a0.2.1, a0.2.2))).bind fun y20 => (if (!y20) then (some (ByteArray.mk #[])) else ((types_fits.f n a1 (ByteArray.mk #[98, 98])).bind fun y21 => (if (!y21) then (some (ByteArray.mk #[])) else (some (ByteArray.mk #[98])))))) else (if ((a0.1 == 10) || false) then ((op_Right.f n (a0.1, (a0.2.1, a0.2.2))).bind fun y22 => (if (!y22) then (some (ByteArray.mk #[])) else ((types_fits.f n a1 (ByteArray.mk #[98])).bind fun y23 => (if (!y23) then (some (ByteArray.mk #[])) else (some (ByteArray.mk #[105])))))) else (if ((a0.1 == 20) || false) then ((op_Right.f n (a0.1, (a0.2.1, a0.2.2))).bind fun y24 => (if (!y24) then (some (ByteArray.mk #[])) else ((types_fits.f n a1 (ByteArray.mk #[98])).bind fun y25 => (if (!y25) then (some (ByteArray.mk #[])) else (some (ByteArray.mk #[])))))) else (some (ByteArray.mk #[]))))))))))))
noncomputable def types_Gives.fs (n : Nat) : FS := ⟨⟨[.val (.pair (.int .i64) (.pair (.int .i64) (.int .i64))), .val .str], []⟩, ⟨[.val .str], []⟩, ByteArray, fun y => ((y, ()), ()), fun o => o.1.1, fun x => types_Gives.f n x.1.1 x.1.2.1⟩
theorem types_Gives.e (n : Nat) : FnEq (c17 n) 14 83 0 (types_Gives.fs n) := fun x => by kernel_rfl
noncomputable def c18 (n : Nat) : Cx := (Cx.bare (c17 n)).addSpec 83 (types_Gives.fs n)
theorem g18 (n : Nat) : Good (c18 n) := Good.fn (g17 n) 14 0 (types_Gives.e n) (fun _ => rfl) rfl
/-! ### types_after: function 50 -/
noncomputable def types_after.f (n : Nat) (a0 : (Int × (Int × Int))) (a1 : ByteArray) : Option (ByteArray × Int) := (types_Takes.f n (a0.1, (a0.2.1, a0.2.2))).bind fun y1 => (if (decide ((IntKind.wrap .i64 ((a1.size : Int) - (y1.size : Int))) < 0)) then (some ((ByteArray.mk #[]), 9)) else (if (decide (0 ≤ (IntKind.wrap .i64 ((a1.size : Int) - (y1.size : Int)))) && decide ((IntKind.wrap .i64 ((a1.size : Int) - (y1.size : Int))) ≤ (a1.size : Int))) then ((types_Takes.f n (a0.1, (a0.2.1, a0.2.2))).bind fun y2 => ((types_fits.f n (a1.extract ((IntKind.wrap .i64 ((a1.size : Int) - (y1.size : Int)))).toNat a1.size) y2).bind fun y3 => (if (!y3) then (some ((ByteArray.mk #[]), 10)) else (if (decide (0 ≤ (IntKind.wrap .i64 ((a1.size : Int) - (y1.size : Int)))) && decide ((IntKind.wrap .i64 ((a1.size : Int) - (y1.size : Int))) ≤ (a1.size : Int))) then (if (decide (0 ≤ (IntKind.wrap .i64 ((a1.size : Int) - (y1.size : Int)))) && decide ((IntKind.wrap .i64 ((a1.size : Int) - (y1.size : Int))) ≤ (a1.size : Int))) then ((types_Gives.f n (a0.1, (a0.2.1, a0.2.2)) (a1.extract ((IntKind.wrap .i64 ((a1.size : Int) - (y1.size : Int)))).toNat a1.size)).bind fun y4 => (if decide ((a1.extract 0 ((IntKind.wrap .i64 ((a1.size : Int) - (y1.size : Int)))).toNat).size + y4.size ≤ 140737488351232) then (if (decide (((((a1.extract 0 ((IntKind.wrap .i64 ((a1.size : Int) - (y1.size : Int)))).toNat) ++ y4).size : Nat) : Int) > 16)) then (some ((ByteArray.mk #[]), 9)) else (some (((a1.extract 0 ((IntKind.wrap .i64 ((a1.size : Int) - (y1.size : Int)))).toNat) ++ y4), 0))) else none)) else none) else none)))) else none))
noncomputable def types_after.fs (n : Nat) : FS := ⟨⟨[.val (.pair (.int .i64) (.pair (.int .i64) (.int .i64))), .val .str], []⟩, ⟨[.val .str, .val (.int .i64)], []⟩, (ByteArray × Int), fun y => ((y.1, y.2, ()), ()), fun o => (o.1.1, o.1.2.1), fun x => types_after.f n x.1.1 x.1.2.1⟩
theorem types_after.e (n : Nat) : FnEq (c18 n) 14 50 0 (types_after.fs n) := fun x => by kernel_rfl
noncomputable def c19 (n : Nat) : Cx := (Cx.bare (c18 n)).addSpec 50 (types_after.fs n)
theorem g19 (n : Nat) : Good (c19 n) := Good.fn (g18 n) 14 0 (types_after.e n) (fun _ => rfl) rfl
/-! ### types_Stacks: function 12 -/
noncomputable def types_Stacks.j0 (n : Nat) (v3 : Int) (v4 : ByteArray) (v5 : (List ByteArray)) (v6 : (List Bool)) (v7 : (List Bool)) : Option ((Int × ByteArray × (List ByteArray) × (List Bool) × (List Bool))) := if (decide (0 ≤ v3) && decide (v3 < (v6.length : Int))) then (if (v6.getD v3.toNat false) then (if (decide (0 ≤ v3) && decide (v3 < (v5.length : Int))) then (if (!((v5.getD v3.toNat ByteArray.empty).toList == v4.toList)) then (if (decide (0 ≤ v3) && decide (v3 < (v7.length : Int))) then (some (v3, v4, v5, v6, (v7.set v3.toNat true))) else none) else (some (v3, v4, v5, v6, v7))) else none) else (some (v3, v4, v5, v6, v7))) else none
noncomputable def types_Stacks.j0.L (n : Nat) : Loop := ⟨⟨ofs 43 0 [(0, .obj 0), (1, .val (.int .i64)), (2, .val .str)], [[.row 9 .str, .row 4 .bool, .row 4 .bool]]⟩, [(.norm, ⟨ofs 43 0 [(0, .obj 0), (1, .val (.int .i64)), (2, .val .str)], [[.row 9 .str, .row 4 .bool, .row 4 .bool]]⟩)], (Int × ByteArray × (List ByteArray) × (List Bool) × (List Bool)), fun x => ((x.1, x.2.1, ()), ((x.2.2.1, x.2.2.2.1, x.2.2.2.2, ()), ())), fun (x : ((Int × ByteArray × Unit) × (((List ByteArray) × (List Bool) × (List Bool) × Unit) × Unit))) => (x.1.1, x.1.2.1, x.2.1.1, x.2.1.2.1, x.2.1.2.2.1), (Int × ByteArray × (List ByteArray) × (List Bool) × (List Bool)), fun y => ((y.1, y.2.1, ()), ((y.2.2.1, y.2.2.2.1, y.2.2.2.2, ()), ())), fun (o : ((Int × ByteArray × Unit) × (((List ByteArray) × (List Bool) × (List Bool) × Unit) × Unit))) => (o.1.1, o.1.2.1, o.2.1.1, o.2.1.2.1, o.2.1.2.2.1), fun x => types_Stacks.j0 n x.1 x.2.1 x.2.2.1 x.2.2.2.1 x.2.2.2.2⟩
noncomputable def types_Stacks.j1 (n : Nat) (v16 : Int) (v17 : (List Int)) (v18 : ByteArray) (v19 : (List ByteArray)) (v20 : (List Bool)) (v21 : (List Bool)) (v22 : Int) (v23 : Int) (v24 : Int) : Option ((((Int × Unit) × (((List ByteArray) × (List Bool) × (List Bool) × Unit) × (Int × Int × Int × Unit) × Unit)) ⊕ ((Int × ByteArray × Unit) × (((List ByteArray) × (List Bool) × (List Bool) × Unit) × (Int × Int × Int × Unit) × Unit)))) := if (decide (0 ≤ v16) && decide (v16 < (v20.length : Int))) then (if (!(v20.getD v16.toNat false)) then (some (.inl ((8, ()), ((v19, v20, v21, ()), (v22, v23, v24, ()), ())))) else (if (decide (0 ≤ v16) && decide (v16 < (v21.length : Int))) then (if (v21.getD v16.toNat false) then (some (.inl ((10, ()), ((v19, v20, v21, ()), (v22, v23, v24, ()), ())))) else (if (v22 == 22) then (if (decide (0 ≤ v16) && decide (v16 < (v17.length : Int))) then (if (decide (0 ≤ (v17.getD v16.toNat (0 : Int))) && decide ((v17.getD v16.toNat (0 : Int)) < (v19.length : Int))) then (if (!((v19.getD ((v17.getD v16.toNat (0 : Int))).toNat ByteArray.empty).toList == v18.toList)) then (some (.inl ((10, ()), ((v19, v20, v21, ()), (v22, v23, v24, ()), ())))) else (some (.inr ((v16, v18, ()), ((v19, v20, v21, ()), (v22, v23, v24, ()), ()))))) else none) else none) else (some (.inr ((v16, v18, ()), ((v19, v20, v21, ()), (v22, v23, v24, ()), ())))))) else none)) else none
noncomputable def types_Stacks.j1.L (n : Nat) : Loop := ⟨⟨ofs 91 0 [(0, .obj 0), (1, .val (.int .i64)), (3, .val (.sl (.int .i64))), (6, .obj 1), (9, .val .str)], [[.row 9 .str, .row 4 .bool, .row 4 .bool], [.val (.int .i64), .val (.int .i64), .val (.int .i64)]]⟩, [(.ret, ⟨ofs 91 0 [(8, .val (.int .i64))], [[.row 9 .str, .row 4 .bool, .row 4 .bool], [.val (.int .i64), .val (.int .i64), .val (.int .i64)]]⟩), (.norm, ⟨ofs 91 0 [(0, .obj 0), (1, .val (.int .i64)), (6, .obj 1), (9, .val .str)], [[.row 9 .str, .row 4 .bool, .row 4 .bool], [.val (.int .i64), .val (.int .i64), .val (.int .i64)]]⟩)], (Int × (List Int) × ByteArray × (List ByteArray) × (List Bool) × (List Bool) × Int × Int × Int), fun x => ((x.1, x.2.1, x.2.2.1, ()), ((x.2.2.2.1, x.2.2.2.2.1, x.2.2.2.2.2.1, ()), (x.2.2.2.2.2.2.1, x.2.2.2.2.2.2.2.1, x.2.2.2.2.2.2.2.2, ()), ())), fun (x : ((Int × (List Int) × ByteArray × Unit) × (((List ByteArray) × (List Bool) × (List Bool) × Unit) × (Int × Int × Int × Unit) × Unit))) => (x.1.1, x.1.2.1, x.1.2.2.1, x.2.1.1, x.2.1.2.1, x.2.1.2.2.1, x.2.2.1.1, x.2.2.1.2.1, x.2.2.1.2.2.1), (((Int × Unit) × (((List ByteArray) × (List Bool) × (List Bool) × Unit) × (Int × Int × Int × Unit) × Unit)) ⊕ ((Int × ByteArray × Unit) × (((List ByteArray) × (List Bool) × (List Bool) × Unit) × (Int × Int × Int × Unit) × Unit))), fun y => y, fun y => y, fun x => types_Stacks.j1 n x.1 x.2.1 x.2.2.1 x.2.2.2.1 x.2.2.2.2.1 x.2.2.2.2.2.1 x.2.2.2.2.2.2.1 x.2.2.2.2.2.2.2.1 x.2.2.2.2.2.2.2.2⟩
noncomputable def types_Stacks.j2 (n : Nat) (v20 : Int) (v21 : ByteArray) (v22 : (List ByteArray)) (v23 : (List Bool)) (v24 : (List Bool)) (v25 : Int) (v26 : Int) (v27 : Int) : Option ((Int × ByteArray × (List ByteArray) × (List Bool) × (List Bool) × Int × Int × Int)) := if (v25 != 19) then (if (v25 != 25) then ((types_Stacks.j0 n (IntKind.wrap .i64 (v20 + 1)) v21 v22 v23 v24).bind fun y28 => (if (decide (0 ≤ y28.1) && decide (y28.1 < (y28.2.2.2.1.length : Int))) then (if (decide (0 ≤ y28.1) && decide (y28.1 < (y28.2.2.1.length : Int))) then (some (v20, v21, (y28.2.2.1.set y28.1.toNat y28.2.1), (y28.2.2.2.1.set y28.1.toNat true), y28.2.2.2.2, v25, v26, v27)) else none) else none)) else (some (v20, v21, v22, v23, v24, v25, v26, v27))) else (some (v20, v21, v22, v23, v24, v25, v26, v27))
noncomputable def types_Stacks.j2.L (n : Nat) : Loop := ⟨⟨ofs 91 0 [(0, .obj 0), (1, .val (.int .i64)), (6, .obj 1), (10, .val .str)], [[.row 9 .str, .row 4 .bool, .row 4 .bool], [.val (.int .i64), .val (.int .i64), .val (.int .i64)]]⟩, [(.norm, ⟨ofs 91 0 [(0, .obj 0), (1, .val (.int .i64)), (6, .obj 1), (10, .val .str)], [[.row 9 .str, .row 4 .bool, .row 4 .bool], [.val (.int .i64), .val (.int .i64), .val (.int .i64)]]⟩)], (Int × ByteArray × (List ByteArray) × (List Bool) × (List Bool) × Int × Int × Int), fun x => ((x.1, x.2.1, ()), ((x.2.2.1, x.2.2.2.1, x.2.2.2.2.1, ()), (x.2.2.2.2.2.1, x.2.2.2.2.2.2.1, x.2.2.2.2.2.2.2, ()), ())), fun (x : ((Int × ByteArray × Unit) × (((List ByteArray) × (List Bool) × (List Bool) × Unit) × (Int × Int × Int × Unit) × Unit))) => (x.1.1, x.1.2.1, x.2.1.1, x.2.1.2.1, x.2.1.2.2.1, x.2.2.1.1, x.2.2.1.2.1, x.2.2.1.2.2.1), (Int × ByteArray × (List ByteArray) × (List Bool) × (List Bool) × Int × Int × Int), fun y => ((y.1, y.2.1, ()), ((y.2.2.1, y.2.2.2.1, y.2.2.2.2.1, ()), (y.2.2.2.2.2.1, y.2.2.2.2.2.2.1, y.2.2.2.2.2.2.2, ()), ())), fun (o : ((Int × ByteArray × Unit) × (((List ByteArray) × (List Bool) × (List Bool) × Unit) × (Int × Int × Int × Unit) × Unit))) => (o.1.1, o.1.2.1, o.2.1.1, o.2.1.2.1, o.2.1.2.2.1, o.2.2.1.1, o.2.2.1.2.1, o.2.2.1.2.2.1), fun x => types_Stacks.j2 n x.1 x.2.1 x.2.2.1 x.2.2.2.1 x.2.2.2.2.1 x.2.2.2.2.2.1 x.2.2.2.2.2.2.1 x.2.2.2.2.2.2.2⟩
noncomputable def types_Stacks.b3 (n : Nat) (F : ((List Int) × (List (Int × (Int × Int))) × Int × Int × (List ByteArray) × (List Bool) × (List Bool)) → Option (((((List ByteArray) × Int × Unit) × (((List ByteArray) × (List Bool) × (List Bool) × Unit) × Unit)) ⊕ (Unit × (((List ByteArray) × (List Bool) × (List Bool) × Unit) × Unit))))) (v9 : (List Int)) (v10 : (List (Int × (Int × Int)))) (v11 : Int) (v12 : Int) (v13 : (List ByteArray)) (v14 : (List Bool)) (v15 : (List Bool)) : Option (((((List ByteArray) × Int × Unit) × (((List ByteArray) × (List Bool) × (List Bool) × Unit) × Unit)) ⊕ (Unit × (((List ByteArray) × (List Bool) × (List Bool) × Unit) × Unit)))) := if (decide (v12 < v11)) then (if (decide (0 ≤ v12) && decide (v12 < (v10.length : Int))) then (if (decide (0 ≤ v12) && decide (v12 < (v13.length : Int))) then ((types_Stacks.j1 n v12 v9 (v13.getD v12.toNat ByteArray.empty) v13 v14 v15 ((v10.getD v12.toNat ((0 : Int), ((0 : Int), (0 : Int)))).1) ((v10.getD v12.toNat ((0 : Int), ((0 : Int), (0 : Int)))).2.1) ((v10.getD v12.toNat ((0 : Int), ((0 : Int), (0 : Int)))).2.2)).bind fun y16 => ((Sum.elim (fun (z17 : ((Int × Unit) × (((List ByteArray) × (List Bool) × (List Bool) × Unit) × (Int × Int × Int × Unit) × Unit))) => (if (z17.1.1 != 0) then (some (.inl (([], z17.1.1, ()), ((z17.2.1.1, z17.2.1.2.1, z17.2.1.2.2.1, ()), ())))) else (F (v9, v10, v11, (IntKind.wrap .i64 (v12 + 1)), z17.2.1.1, z17.2.1.2.1, z17.2.1.2.2.1)))) (fun (z18 : ((Int × ByteArray × Unit) × (((List ByteArray) × (List Bool) × (List Bool) × Unit) × (Int × Int × Int × Unit) × Unit))) => ((types_after.f n (z18.2.2.1.1, (z18.2.2.1.2.1, z18.2.2.1.2.2.1)) z18.1.2.1).bind fun y19 => (if (y19.2 != 0) then (if (y19.2 != 0) then (some (.inl (([], y19.2, ()), ((z18.2.1.1, z18.2.1.2.1, z18.2.1.2.2.1, ()), ())))) else (F (v9, v10, v11, (IntKind.wrap .i64 (v12 + 1)), z18.2.1.1, z18.2.1.2.1, z18.2.1.2.2.1))) else ((types_Stacks.j2 n z18.1.1 y19.1 z18.2.1.1 z18.2.1.2.1 z18.2.1.2.2.1 z18.2.2.1.1 z18.2.2.1.2.1 z18.2.2.1.2.2.1).bind fun y20 => (if (y20.2.2.2.2.2.1 == 19) then ((types_Stacks.j0 n (IntKind.wrap .i64 ((IntKind.wrap .i64 (y20.1 + 1)) + y20.2.2.2.2.2.2.1)) y20.2.1 y20.2.2.1 y20.2.2.2.1 y20.2.2.2.2.1).bind fun y21 => (if (decide (0 ≤ y21.1) && decide (y21.1 < (y21.2.2.2.1.length : Int))) then (if (decide (0 ≤ y21.1) && decide (y21.1 < (y21.2.2.1.length : Int))) then (F (v9, v10, v11, (IntKind.wrap .i64 (v12 + 1)), (y21.2.2.1.set y21.1.toNat y21.2.1), (y21.2.2.2.1.set y21.1.toNat true), y21.2.2.2.2)) else none) else none)) else (if (y20.2.2.2.2.2.1 == 20) then ((types_Stacks.j0 n (IntKind.wrap .i64 ((IntKind.wrap .i64 (y20.1 + 1)) + y20.2.2.2.2.2.2.1)) y20.2.1 y20.2.2.1 y20.2.2.2.1 y20.2.2.2.2.1).bind fun y22 => (if (decide (0 ≤ y22.1) && decide (y22.1 < (y22.2.2.2.1.length : Int))) then (if (decide (0 ≤ y22.1) && decide (y22.1 < (y22.2.2.1.length : Int))) then (F (v9, v10, v11, (IntKind.wrap .i64 (v12 + 1)), (y22.2.2.1.set y22.1.toNat y22.2.1), (y22.2.2.2.1.set y22.1.toNat true), y22.2.2.2.2)) else none) else none)) else (F (v9, v10, v11, (IntKind.wrap .i64 (v12 + 1)), y20.2.2.1, y20.2.2.2.1, y20.2.2.2.2.1))))))))) y16)) else none) else none) else (some (.inr ((), ((v13, v14, v15, ()), ()))))
noncomputable def types_Stacks.b3.l (n : Nat) : ((List Int) × (List (Int × (Int × Int))) × Int × Int × (List ByteArray) × (List Bool) × (List Bool)) → Option (((((List ByteArray) × Int × Unit) × (((List ByteArray) × (List Bool) × (List Bool) × Unit) × Unit)) ⊕ (Unit × (((List ByteArray) × (List Bool) × (List Bool) × Unit) × Unit))))   := it (fun F x => types_Stacks.b3 n F x.1 x.2.1 x.2.2.1 x.2.2.2.1 x.2.2.2.2.1 x.2.2.2.2.2.1 x.2.2.2.2.2.2) n
noncomputable def types_Stacks.b3.L (n : Nat) : Loop := ⟨⟨ofs 54 0 [(5, .val (.sl (.int .i64))), (7, .obj 0), (34, .val (.sl (.pair (.int .i64) (.pair (.int .i64) (.int .i64))))), (35, .val (.int .i64)), (36, .val (.int .i64))], [[.row 9 .str, .row 4 .bool, .row 4 .bool]]⟩, [(.ret, ⟨ofs 54 0 [(2, .row 9 .str), (3, .val (.int .i64))], [[.row 9 .str, .row 4 .bool, .row 4 .bool]]⟩), (.exit 0, ⟨ofs 54 0 [(7, .obj 0)], [[.row 9 .str, .row 4 .bool, .row 4 .bool]]⟩)], ((List Int) × (List (Int × (Int × Int))) × Int × Int × (List ByteArray) × (List Bool) × (List Bool)), fun x => ((x.1, x.2.1, x.2.2.1, x.2.2.2.1, ()), ((x.2.2.2.2.1, x.2.2.2.2.2.1, x.2.2.2.2.2.2, ()), ())), fun (x : (((List Int) × (List (Int × (Int × Int))) × Int × Int × Unit) × (((List ByteArray) × (List Bool) × (List Bool) × Unit) × Unit))) => (x.1.1, x.1.2.1, x.1.2.2.1, x.1.2.2.2.1, x.2.1.1, x.2.1.2.1, x.2.1.2.2.1), ((((List ByteArray) × Int × Unit) × (((List ByteArray) × (List Bool) × (List Bool) × Unit) × Unit)) ⊕ (Unit × (((List ByteArray) × (List Bool) × (List Bool) × Unit) × Unit))), fun y => y, fun y => y, types_Stacks.b3.l n⟩
noncomputable def types_Stacks.f (n : Nat) (a0 : (List (Int × (Int × Int)))) : Option ((List ByteArray) × Int) := (nest_Whole.f n a0).bind fun y1 => (if (y1 != 0) then (some ([], y1)) else ((nest_Match.f n a0).bind fun y2 => (if (decide (0 ≤ (a0.length : Int)) && ((a0.length : Int) == (a0.length : Int)) && decide ((a0.length : Int) * (16 : Int) ≤ 140737488355328) && decide (1 ≤ 16)) then (if (decide (0 ≤ (a0.length : Int)) && ((a0.length : Int) == (a0.length : Int)) && decide ((a0.length : Int) * (1 : Int) ≤ 140737488355328) && decide (1 ≤ 1)) then (if (decide (0 ≤ (a0.length : Int)) && ((a0.length : Int) == (a0.length : Int)) && decide ((a0.length : Int) * (1 : Int) ≤ 140737488355328) && decide (1 ≤ 1)) then ((types_Stacks.j0 n 0 (ByteArray.mk #[]) (List.replicate ((a0.length : Int)).toNat ByteArray.empty) (List.replicate ((a0.length : Int)).toNat false) (List.replicate ((a0.length : Int)).toNat false)).bind fun y3 => (if (decide (0 ≤ y3.1) && decide (y3.1 < (y3.2.2.2.1.length : Int))) then (if (decide (0 ≤ y3.1) && decide (y3.1 < (y3.2.2.1.length : Int))) then ((types_Stacks.b3.l n (y2.1, a0, (a0.length : Int), 0, (y3.2.2.1.set y3.1.toNat y3.2.1), (y3.2.2.2.1.set y3.1.toNat true), y3.2.2.2.2)).bind fun y4 => ((Sum.elim (fun (z5 : (((List ByteArray) × Int × Unit) × (((List ByteArray) × (List Bool) × (List Bool) × Unit) × Unit))) => (some (z5.1.1, z5.1.2.1))) (fun (z6 : (Unit × (((List ByteArray) × (List Bool) × (List Bool) × Unit) × Unit))) => (some (z6.2.1.1, 0)))) y4)) else none) else none)) else none) else none) else none)))
noncomputable def types_Stacks.fs (n : Nat) : FS := ⟨⟨[.val (.sl (.pair (.int .i64) (.pair (.int .i64) (.int .i64))))], []⟩, ⟨[.val (.sl .str), .val (.int .i64)], []⟩, ((List ByteArray) × Int), fun y => ((y.1, y.2, ()), ()), fun o => (o.1.1, o.1.2.1), fun x => types_Stacks.f n x.1.1⟩
theorem types_Stacks.j0.e (n : Nat) : ∀ x, evJoin (c19 n) 14 36 0 1000002 (types_Stacks.j0.L n) x = (types_Stacks.j0.L n).fn x := fun x => by kernel_rfl
noncomputable def types_Stacks.j0.c (n : Nat) : Cx := Cx.addLoop (c19 n) 36 1000002 (types_Stacks.j0.L n)
theorem types_Stacks.j0.g (n : Nat) : Good (types_Stacks.j0.c n) := Good.join (g19 n) 14 0 (by kernel_rfl) (types_Stacks.j0.e n) (fun _ => rfl) (fun _ => rfl) rfl
theorem types_Stacks.j1.e (n : Nat) : ∀ x, evJoin (types_Stacks.j0.c n) 14 37 0 1000007 (types_Stacks.j1.L n) x = (types_Stacks.j1.L n).fn x := fun x => by kernel_rfl
noncomputable def types_Stacks.j1.c (n : Nat) : Cx := Cx.addLoop (types_Stacks.j0.c n) 37 1000007 (types_Stacks.j1.L n)
theorem types_Stacks.j1.g (n : Nat) : Good (types_Stacks.j1.c n) := Good.join (types_Stacks.j0.g n) 14 0 (by kernel_rfl) (types_Stacks.j1.e n) (fun _ => rfl) (fun _ => rfl) rfl
theorem types_Stacks.j2.e (n : Nat) : ∀ x, evJoin (types_Stacks.j1.c n) 14 37 0 1000012 (types_Stacks.j2.L n) x = (types_Stacks.j2.L n).fn x := fun x => by kernel_rfl
noncomputable def types_Stacks.j2.c (n : Nat) : Cx := Cx.addLoop (types_Stacks.j1.c n) 37 1000012 (types_Stacks.j2.L n)
theorem types_Stacks.j2.g (n : Nat) : Good (types_Stacks.j2.c n) := Good.join (types_Stacks.j1.g n) 14 0 (by kernel_rfl) (types_Stacks.j2.e n) (fun _ => rfl) (fun _ => rfl) rfl
theorem types_Stacks.b3.e (n : Nat) : ∀ F x, evLoop (types_Stacks.j2.c n) 14 12 0 8 (types_Stacks.b3.L n) F x = types_Stacks.b3 n F x.1 x.2.1 x.2.2.1 x.2.2.2.1 x.2.2.2.2.1 x.2.2.2.2.2.1 x.2.2.2.2.2.2 := fun F x => by kernel_rfl
noncomputable def types_Stacks.b3.c (n : Nat) : Cx := Cx.addLoop (types_Stacks.j2.c n) 12 8 (types_Stacks.b3.L n)
theorem types_Stacks.b3.g (n : Nat) : Good (types_Stacks.b3.c n) := Good.loop (types_Stacks.j2.g n) 14 0 (by kernel_rfl) (types_Stacks.b3.e n) n (fun _ => rfl) (fun _ => rfl) (fun _ => rfl) rfl
theorem types_Stacks.e (n : Nat) : FnEq (types_Stacks.b3.c n) 14 12 0 (types_Stacks.fs n) := fun x => by kernel_rfl
noncomputable def c20 (n : Nat) : Cx := (Cx.bare (types_Stacks.b3.c n)).addSpec 12 (types_Stacks.fs n)
theorem g20 (n : Nat) : Good (c20 n) := Good.fn (types_Stacks.b3.g n) 14 0 (types_Stacks.e n) (fun _ => rfl) rfl
/-! ### vm_Machine_pop: function 86 -/
noncomputable def vm_Machine_pop.f (n : Nat) (v1 : (List (Int × (Int × Int)))) (v2 : (List Int)) (v3 : (List Int)) (v4 : Bool) (v5 : Int) (v6 : (List Int)) (v7 : (List Int)) (v8 : (List Int)) (v9 : (List Int)) (v10 : Int) (v11 : (List Int)) (v12 : Int) (v13 : Int) (v14 : Int) : Option (Int × (List (Int × (Int × Int))) × (List Int) × (List Int) × Bool × Int × (List Int) × (List Int) × (List Int) × (List Int) × Int × (List Int) × Int × Int × Int) := if (decide (0 ≤ (IntKind.wrap .i64 ((v6.length : Int) - 1))) && decide ((IntKind.wrap .i64 ((v6.length : Int) - 1)) < (v6.length : Int))) then (if (decide (0 ≤ (IntKind.wrap .i64 ((v6.length : Int) - 1))) && decide ((IntKind.wrap .i64 ((v6.length : Int) - 1)) ≤ (v6.length : Int))) then (some ((v6.getD ((IntKind.wrap .i64 ((v6.length : Int) - 1))).toNat (0 : Int)), v1, v2, v3, v4, v5, (v6.take (((IntKind.wrap .i64 ((v6.length : Int) - 1))).toNat - 0)), v7, v8, v9, v10, v11, v12, v13, v14)) else none) else none
noncomputable def vm_Machine_pop.fs (n : Nat) : FS := ⟨⟨[.obj 0], [[.row 52 (.pair (.int .i64) (.pair (.int .i64) (.int .i64))), .val (.sl (.int .i64)), .val (.arr 8 (.int .i64)), .val .bool, .val (.int .i64), .row 3 (.int .i64), .val (.arr 8 (.int .i64)), .val (.arr 16 (.int .i64)), .val (.arr 16 (.int .i64)), .val (.int .i64), .row 3 (.int .i64), .val (.int .i64), .val (.int .i64), .val (.int .i64)]]⟩, ⟨[.val (.int .i64)], [[.row 52 (.pair (.int .i64) (.pair (.int .i64) (.int .i64))), .val (.sl (.int .i64)), .val (.arr 8 (.int .i64)), .val .bool, .val (.int .i64), .row 3 (.int .i64), .val (.arr 8 (.int .i64)), .val (.arr 16 (.int .i64)), .val (.arr 16 (.int .i64)), .val (.int .i64), .row 3 (.int .i64), .val (.int .i64), .val (.int .i64), .val (.int .i64)]]⟩, (Int × (List (Int × (Int × Int))) × (List Int) × (List Int) × Bool × Int × (List Int) × (List Int) × (List Int) × (List Int) × Int × (List Int) × Int × Int × Int), fun y => ((y.1, ()), ((y.2.1, y.2.2.1, y.2.2.2.1, y.2.2.2.2.1, y.2.2.2.2.2.1, y.2.2.2.2.2.2.1, y.2.2.2.2.2.2.2.1, y.2.2.2.2.2.2.2.2.1, y.2.2.2.2.2.2.2.2.2.1, y.2.2.2.2.2.2.2.2.2.2.1, y.2.2.2.2.2.2.2.2.2.2.2.1, y.2.2.2.2.2.2.2.2.2.2.2.2.1, y.2.2.2.2.2.2.2.2.2.2.2.2.2.1, y.2.2.2.2.2.2.2.2.2.2.2.2.2.2, ()), ())), fun (o : ((Int × Unit) × (((List (Int × (Int × Int))) × (List Int) × (List Int) × Bool × Int × (List Int) × (List Int) × (List Int) × (List Int) × Int × (List Int) × Int × Int × Int × Unit) × Unit))) => (o.1.1, o.2.1.1, o.2.1.2.1, o.2.1.2.2.1, o.2.1.2.2.2.1, o.2.1.2.2.2.2.1, o.2.1.2.2.2.2.2.1, o.2.1.2.2.2.2.2.2.1, o.2.1.2.2.2.2.2.2.2.1, o.2.1.2.2.2.2.2.2.2.2.1, o.2.1.2.2.2.2.2.2.2.2.2.1, o.2.1.2.2.2.2.2.2.2.2.2.2.1, o.2.1.2.2.2.2.2.2.2.2.2.2.2.1, o.2.1.2.2.2.2.2.2.2.2.2.2.2.2.1, o.2.1.2.2.2.2.2.2.2.2.2.2.2.2.2.1), fun (x : (Unit × (((List (Int × (Int × Int))) × (List Int) × (List Int) × Bool × Int × (List Int) × (List Int) × (List Int) × (List Int) × Int × (List Int) × Int × Int × Int × Unit) × Unit))) => vm_Machine_pop.f n x.2.1.1 x.2.1.2.1 x.2.1.2.2.1 x.2.1.2.2.2.1 x.2.1.2.2.2.2.1 x.2.1.2.2.2.2.2.1 x.2.1.2.2.2.2.2.2.1 x.2.1.2.2.2.2.2.2.2.1 x.2.1.2.2.2.2.2.2.2.2.1 x.2.1.2.2.2.2.2.2.2.2.2.1 x.2.1.2.2.2.2.2.2.2.2.2.2.1 x.2.1.2.2.2.2.2.2.2.2.2.2.2.1 x.2.1.2.2.2.2.2.2.2.2.2.2.2.2.1 x.2.1.2.2.2.2.2.2.2.2.2.2.2.2.2.1⟩
theorem vm_Machine_pop.e (n : Nat) : FnEq (c20 n) 14 86 0 (vm_Machine_pop.fs n) := fun x => by kernel_rfl
noncomputable def c21 (n : Nat) : Cx := (Cx.bare (c20 n)).addSpec 86 (vm_Machine_pop.fs n)
theorem g21 (n : Nat) : Good (c21 n) := Good.fn (g20 n) 14 0 (vm_Machine_pop.e n) (fun _ => rfl) rfl
/-! ### num_Bool: function 88 -/
noncomputable def num_Bool.f (n : Nat) (a0 : Bool) : Option Int := if a0 then (some 1) else (some 0)
noncomputable def num_Bool.fs (n : Nat) : FS := ⟨⟨[.val .bool], []⟩, ⟨[.val (.int .i64)], []⟩, Int, fun y => ((y, ()), ()), fun o => o.1.1, fun x => num_Bool.f n x.1.1⟩
theorem num_Bool.e (n : Nat) : FnEq (c21 n) 14 88 0 (num_Bool.fs n) := fun x => by kernel_rfl
noncomputable def c22 (n : Nat) : Cx := (Cx.bare (c21 n)).addSpec 88 (num_Bool.fs n)
theorem g22 (n : Nat) : Good (c22 n) := Good.fn (g21 n) 14 0 (num_Bool.e n) (fun _ => rfl) rfl
/-! ### num_Not: function 90 -/
noncomputable def num_Not.f (n : Nat) (a0 : Int) : Option Int := (num_Bool.f n (a0 == 0)).bind fun y1 => (some y1)
noncomputable def num_Not.fs (n : Nat) : FS := ⟨⟨[.val (.int .i64)], []⟩, ⟨[.val (.int .i64)], []⟩, Int, fun y => ((y, ()), ()), fun o => o.1.1, fun x => num_Not.f n x.1.1⟩
theorem num_Not.e (n : Nat) : FnEq (c22 n) 14 90 0 (num_Not.fs n) := fun x => by kernel_rfl
noncomputable def c23 (n : Nat) : Cx := (Cx.bare (c22 n)).addSpec 90 (num_Not.fs n)
theorem g23 (n : Nat) : Good (c23 n) := Good.fn (g22 n) 14 0 (num_Not.e n) (fun _ => rfl) rfl
/-! ### num_Neg: function 89 -/
noncomputable def num_Neg.f (n : Nat) (a0 : Int) : Option Int := some (IntKind.wrap .i64 (0 - a0))
noncomputable def num_Neg.fs (n : Nat) : FS := ⟨⟨[.val (.int .i64)], []⟩, ⟨[.val (.int .i64)], []⟩, Int, fun y => ((y, ()), ()), fun o => o.1.1, fun x => num_Neg.f n x.1.1⟩
theorem num_Neg.e (n : Nat) : FnEq (c23 n) 14 89 0 (num_Neg.fs n) := fun x => by kernel_rfl
noncomputable def c24 (n : Nat) : Cx := (Cx.bare (c23 n)).addSpec 89 (num_Neg.fs n)
theorem g24 (n : Nat) : Good (c24 n) := Good.fn (g23 n) 14 0 (num_Neg.e n) (fun _ => rfl) rfl
/-! ### num_plain_10: function 109 -/
noncomputable def num_plain_10.f (n : Nat) (a0 : Int) (a1 : Int) : Option Int := (num_Bool.f n (a0 == a1)).bind fun y1 => (some y1)
noncomputable def num_plain_10.fs (n : Nat) : FS := ⟨⟨[.val (.int .i64), .val (.int .i64)], []⟩, ⟨[.val (.int .i64)], []⟩, Int, fun y => ((y, ()), ()), fun o => o.1.1, fun x => num_plain_10.f n x.1.1 x.1.2.1⟩
theorem num_plain_10.e (n : Nat) : FnEq (c24 n) 14 109 0 (num_plain_10.fs n) := fun x => by kernel_rfl
noncomputable def c25 (n : Nat) : Cx := (Cx.bare (c24 n)).addSpec 109 (num_plain_10.fs n)
theorem g25 (n : Nat) : Good (c25 n) := Good.fn (g24 n) 14 0 (num_plain_10.e n) (fun _ => rfl) rfl
/-! ### num_plain_9: function 108 -/
noncomputable def num_plain_9.f (n : Nat) (a0 : Int) (a1 : Int) : Option Int := (num_Bool.f n (decide (a0 < a1))).bind fun y1 => (some y1)
noncomputable def num_plain_9.fs (n : Nat) : FS := ⟨⟨[.val (.int .i64), .val (.int .i64)], []⟩, ⟨[.val (.int .i64)], []⟩, Int, fun y => ((y, ()), ()), fun o => o.1.1, fun x => num_plain_9.f n x.1.1 x.1.2.1⟩
theorem num_plain_9.e (n : Nat) : FnEq (c25 n) 14 108 0 (num_plain_9.fs n) := fun x => by kernel_rfl
noncomputable def c26 (n : Nat) : Cx := (Cx.bare (c25 n)).addSpec 108 (num_plain_9.fs n)
theorem g26 (n : Nat) : Good (c26 n) := Good.fn (g25 n) 14 0 (num_plain_9.e n) (fun _ => rfl) rfl
/-! ### num_plain_8: function 107 -/
noncomputable def num_plain_8.f (n : Nat) (a0 : Int) (a1 : Int) : Option Int := if decide ((bits .and .i64 a1 63) < 0) then none else (some (a0.fdiv (2 ^ (min ((bits .and .i64 a1 63)).toNat 64))))
noncomputable def num_plain_8.fs (n : Nat) : FS := ⟨⟨[.val (.int .i64), .val (.int .i64)], []⟩, ⟨[.val (.int .i64)], []⟩, Int, fun y => ((y, ()), ()), fun o => o.1.1, fun x => num_plain_8.f n x.1.1 x.1.2.1⟩
theorem num_plain_8.e (n : Nat) : FnEq (c26 n) 14 107 0 (num_plain_8.fs n) := fun x => by kernel_rfl
noncomputable def c27 (n : Nat) : Cx := (Cx.bare (c26 n)).addSpec 107 (num_plain_8.fs n)
theorem g27 (n : Nat) : Good (c27 n) := Good.fn (g26 n) 14 0 (num_plain_8.e n) (fun _ => rfl) rfl
/-! ### num_plain_7: function 106 -/
noncomputable def num_plain_7.f (n : Nat) (a0 : Int) (a1 : Int) : Option Int := if decide ((bits .and .i64 a1 63) < 0) then none else (some (IntKind.wrap .i64 (a0 * 2 ^ (min ((bits .and .i64 a1 63)).toNat 64))))
noncomputable def num_plain_7.fs (n : Nat) : FS := ⟨⟨[.val (.int .i64), .val (.int .i64)], []⟩, ⟨[.val (.int .i64)], []⟩, Int, fun y => ((y, ()), ()), fun o => o.1.1, fun x => num_plain_7.f n x.1.1 x.1.2.1⟩
theorem num_plain_7.e (n : Nat) : FnEq (c27 n) 14 106 0 (num_plain_7.fs n) := fun x => by kernel_rfl
noncomputable def c28 (n : Nat) : Cx := (Cx.bare (c27 n)).addSpec 106 (num_plain_7.fs n)
theorem g28 (n : Nat) : Good (c28 n) := Good.fn (g27 n) 14 0 (num_plain_7.e n) (fun _ => rfl) rfl
/-! ### num_plain_6: function 105 -/
noncomputable def num_plain_6.f (n : Nat) (a0 : Int) (a1 : Int) : Option Int := some (bits .xor .i64 a0 a1)
noncomputable def num_plain_6.fs (n : Nat) : FS := ⟨⟨[.val (.int .i64), .val (.int .i64)], []⟩, ⟨[.val (.int .i64)], []⟩, Int, fun y => ((y, ()), ()), fun o => o.1.1, fun x => num_plain_6.f n x.1.1 x.1.2.1⟩
theorem num_plain_6.e (n : Nat) : FnEq (c28 n) 14 105 0 (num_plain_6.fs n) := fun x => by kernel_rfl
noncomputable def c29 (n : Nat) : Cx := (Cx.bare (c28 n)).addSpec 105 (num_plain_6.fs n)
theorem g29 (n : Nat) : Good (c29 n) := Good.fn (g28 n) 14 0 (num_plain_6.e n) (fun _ => rfl) rfl
/-! ### num_plain_5: function 104 -/
noncomputable def num_plain_5.f (n : Nat) (a0 : Int) (a1 : Int) : Option Int := some (bits .or .i64 a0 a1)
noncomputable def num_plain_5.fs (n : Nat) : FS := ⟨⟨[.val (.int .i64), .val (.int .i64)], []⟩, ⟨[.val (.int .i64)], []⟩, Int, fun y => ((y, ()), ()), fun o => o.1.1, fun x => num_plain_5.f n x.1.1 x.1.2.1⟩
theorem num_plain_5.e (n : Nat) : FnEq (c29 n) 14 104 0 (num_plain_5.fs n) := fun x => by kernel_rfl
noncomputable def c30 (n : Nat) : Cx := (Cx.bare (c29 n)).addSpec 104 (num_plain_5.fs n)
theorem g30 (n : Nat) : Good (c30 n) := Good.fn (g29 n) 14 0 (num_plain_5.e n) (fun _ => rfl) rfl
/-! ### num_plain_4: function 103 -/
noncomputable def num_plain_4.f (n : Nat) (a0 : Int) (a1 : Int) : Option Int := some (bits .and .i64 a0 a1)
noncomputable def num_plain_4.fs (n : Nat) : FS := ⟨⟨[.val (.int .i64), .val (.int .i64)], []⟩, ⟨[.val (.int .i64)], []⟩, Int, fun y => ((y, ()), ()), fun o => o.1.1, fun x => num_plain_4.f n x.1.1 x.1.2.1⟩
theorem num_plain_4.e (n : Nat) : FnEq (c30 n) 14 103 0 (num_plain_4.fs n) := fun x => by kernel_rfl
noncomputable def c31 (n : Nat) : Cx := (Cx.bare (c30 n)).addSpec 103 (num_plain_4.fs n)
theorem g31 (n : Nat) : Good (c31 n) := Good.fn (g30 n) 14 0 (num_plain_4.e n) (fun _ => rfl) rfl
/-! ### num_plain_3: function 102 -/
noncomputable def num_plain_3.f (n : Nat) (a0 : Int) (a1 : Int) : Option Int := some (IntKind.wrap .i64 (a0 * a1))
noncomputable def num_plain_3.fs (n : Nat) : FS := ⟨⟨[.val (.int .i64), .val (.int .i64)], []⟩, ⟨[.val (.int .i64)], []⟩, Int, fun y => ((y, ()), ()), fun o => o.1.1, fun x => num_plain_3.f n x.1.1 x.1.2.1⟩
theorem num_plain_3.e (n : Nat) : FnEq (c31 n) 14 102 0 (num_plain_3.fs n) := fun x => by kernel_rfl
noncomputable def c32 (n : Nat) : Cx := (Cx.bare (c31 n)).addSpec 102 (num_plain_3.fs n)
theorem g32 (n : Nat) : Good (c32 n) := Good.fn (g31 n) 14 0 (num_plain_3.e n) (fun _ => rfl) rfl
/-! ### num_plain_2: function 101 -/
noncomputable def num_plain_2.f (n : Nat) (a0 : Int) (a1 : Int) : Option Int := some (IntKind.wrap .i64 (a0 - a1))
noncomputable def num_plain_2.fs (n : Nat) : FS := ⟨⟨[.val (.int .i64), .val (.int .i64)], []⟩, ⟨[.val (.int .i64)], []⟩, Int, fun y => ((y, ()), ()), fun o => o.1.1, fun x => num_plain_2.f n x.1.1 x.1.2.1⟩
theorem num_plain_2.e (n : Nat) : FnEq (c32 n) 14 101 0 (num_plain_2.fs n) := fun x => by kernel_rfl
noncomputable def c33 (n : Nat) : Cx := (Cx.bare (c32 n)).addSpec 101 (num_plain_2.fs n)
theorem g33 (n : Nat) : Good (c33 n) := Good.fn (g32 n) 14 0 (num_plain_2.e n) (fun _ => rfl) rfl
/-! ### num_plain_1: function 100 -/
noncomputable def num_plain_1.f (n : Nat) (a0 : Int) (a1 : Int) : Option Int := some (IntKind.wrap .i64 (a0 + a1))
noncomputable def num_plain_1.fs (n : Nat) : FS := ⟨⟨[.val (.int .i64), .val (.int .i64)], []⟩, ⟨[.val (.int .i64)], []⟩, Int, fun y => ((y, ()), ()), fun o => o.1.1, fun x => num_plain_1.f n x.1.1 x.1.2.1⟩
theorem num_plain_1.e (n : Nat) : FnEq (c33 n) 14 100 0 (num_plain_1.fs n) := fun x => by kernel_rfl
noncomputable def c34 (n : Nat) : Cx := (Cx.bare (c33 n)).addSpec 100 (num_plain_1.fs n)
theorem g34 (n : Nat) : Good (c34 n) := Good.fn (g33 n) 14 0 (num_plain_1.e n) (fun _ => rfl) rfl
/-! ### num_Two: function 87 -/
noncomputable def num_Two.f (n : Nat) (a0 : Int) (a1 : Int) (a2 : Int) : Option (Int × Bool) := if ((a0 == 12) || false) then ((num_plain_10.f n a1 a2).bind fun y1 => (some (y1, false))) else (if ((a0 == 11) || false) then ((num_plain_9.f n a1 a2).bind fun y2 => (some (y2, false))) else (if ((a0 == 10) || false) then ((num_plain_8.f n a1 a2).bind fun y3 => (some (y3, false))) else (if ((a0 == 9) || false) then ((num_plain_7.f n a1 a2).bind fun y4 => (some (y4, false))) else (if ((a0 == 8) || false) then ((num_plain_6.f n a1 a2).bind fun y5 => (some (y5, false))) else (if ((a0 == 7) || false) then ((num_plain_5.f n a1 a2).bind fun y6 => (some (y6, false))) else (if ((a0 == 6) || false) then ((num_plain_4.f n a1 a2).bind fun y7 => (some (y7, false))) else (if ((a0 == 3) || false) then ((num_plain_3.f n a1 a2).bind fun y8 => (some (y8, false))) else (if ((a0 == 2) || false) then ((num_plain_2.f n a1 a2).bind fun y9 => (some (y9, false))) else (if ((a0 == 1) || false) then ((num_plain_1.f n a1 a2).bind fun y10 => (some (y10, false))) else (if (a2 == 0) then (some (0, true)) else (if (a0 == 4) then (if (a2 == 0) then none else (some ((IntKind.wrap .i64 (a1.tdiv a2)), false))) else (if (a0 == 5) then (if (a2 == 0) then none else (some ((a1.tmod a2), false))) else (some (0, true))))))))))))))
noncomputable def num_Two.fs (n : Nat) : FS := ⟨⟨[.val (.int .i64), .val (.int .i64), .val (.int .i64)], []⟩, ⟨[.val (.int .i64), .val .bool], []⟩, (Int × Bool), fun y => ((y.1, y.2, ()), ()), fun o => (o.1.1, o.1.2.1), fun x => num_Two.f n x.1.1 x.1.2.1 x.1.2.2.1⟩
theorem num_Two.e (n : Nat) : FnEq (c34 n) 14 87 0 (num_Two.fs n) := fun x => by kernel_rfl
noncomputable def c35 (n : Nat) : Cx := (Cx.bare (c34 n)).addSpec 87 (num_Two.fs n)
theorem g35 (n : Nat) : Good (c35 n) := Good.fn (g34 n) 14 0 (num_Two.e n) (fun _ => rfl) rfl
end Go.Proofs.Dk
