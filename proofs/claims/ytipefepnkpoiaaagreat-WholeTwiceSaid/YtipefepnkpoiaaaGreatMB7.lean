/- A part of the proofs: Plain: machines that stand in a family: a step, a run to its end. -/
import Derived.Test.YtipefepnkpoiaaaGreatMB6
import Derived.Test.YtipefepnkpoiaaaGreatMB4
set_option linter.unusedVariables false
set_option linter.unusedSimpArgs false
noncomputable section
namespace Go.Proofs.Dk
open Go Go.IntKind
set_option maxRecDepth 100000
abbrev iE : Type := (List cZ) × (List Int) × (List Int) × Bool × Int × (List Int) × (List Int) × (List Int) × (List Int) × Int × (List Int) × Int × Int × Int × Unit
abbrev dM : iE := ([], [], [], false, 0, [], [], [], [], 0, [], 0, 0, 0, ())
def iX (l : List cZ) (m : List Int) (on : Bool) (s : MS) : iE := (l, m, s.ret, on, s.at_, s.stk, s.loc, s.inp, s.out, s.set, s.rds, s.held, s.flt, s.stp, ())
theorem nb {α β : Type} {xs : List α} {k : Nat} (d : α) (hk : k < xs.length) (f : α → Option β) : jd xs (k + 1) f = f (xs.getD k d) := by
 show (match xs[k]? with | some x => f x | none => none) = _
 rw [ax hk, au, ax hk]
 rfl
theorem zE {α : Type} {xs : List α} {k : Nat} {d x : α} (hk : k < xs.length) (h : xs.getD k d = x) : xs.set k x = xs := by
 subst h
 rw [au, ax hk]
 exact List.set_getElem_self hk
theorem iw {α : Type} {xs : List α} {k : Nat} {d x : α} (hk : k < xs.length) : (xs.set k x).getD k d = x := by
 rw [au, List.getElem?_set_self hk]
 rfl
theorem mf {α : Type} {xs : List α} {k j : Nat} {d x : α} (hk : k ≠ j) : (xs.set k x).getD j d = xs.getD j d := by
 rw [au, List.getElem?_set_ne hk, ← au]
theorem I9 {l : List cZ} {m h : List Int} {st : List ByteArray} (hR : Row l m h st) {c : CS} (hc : o9 l m st c) (n : Nat) {fam : List iE} {k : Nat} (hk : k < fam.length) (hf : fam.getD k dM = iX l m c.on c.s) (i1 i2 i3 i4 : Int) (sf : List Int) (bl : List (List Int)) (ts : List Tsk) (ms : List Nat) (out : List Int) :
  ∃ ev e, gn n (k + 1) fam i1 i2 i3 i4 sf bl ts ms c.mem out = some (ev, e, fam.set k (iX l m (d9 l m c).on (d9 l m c).s), i1, i2, i3, i4, sf, bl, ts, ms, (d9 l m c).mem, out) := by
 obtain ⟨⟨ev, e, he⟩, _⟩ := yO hR hc n
 refine ⟨(ev.1, ev.2), e, ?_⟩
 unfold yM at he
 unfold gn
 rw [nb dM hk, hf]
 unfold iX Ga
 dsimp only
 rw [IF, he]
 rfl
theorem Ec (n : Nat) {fam : List iE} {k : Nat} (hk : k < fam.length) {l : List cZ} {m : List Int} {on : Bool} {s : MS} (hf : fam.getD k dM = iX l m on s) : fa n (k + 1) fam = some (on, fam) := by
 have h2 := zE hk hf
 unfold fa
 rw [nb dM hk, hf]
 show some (on, fam.set k (iX l m on s)) = _
 rw [h2]
theorem DL (n : Nat) (hn : 16 < n) {fam : List iE} {k : Nat} (hk : k < fam.length) {l : List cZ} {m : List Int} {on : Bool} {s : MS} (hf : fam.getD k dM = iX l m on s) : eG n (k + 1) fam = some (jD s.out s.set, fam) := by
 have h2 := zE hk hf
 unfold eG
 rw [nb dM hk, hf]
 unfold iX
 dsimp only
 rw [Ma n hn, ae]
 show some (jD s.out s.set, fam.set k (iX l m on s)) = _
 rw [h2]
theorem Ml (n : Nat) {fam : List iE} {k : Nat} (hk : k < fam.length) {l : List cZ} {m : List Int} {on : Bool} {s : MS} (hf : fam.getD k dM = iX l m on s) : eS n (k + 1) fam = some (s.ret, fam) := by
 have h2 := zE hk hf
 unfold eS
 rw [nb dM hk, hf]
 show some (s.ret, fam.set k (iX l m on s)) = _
 rw [h2]
theorem Ja (n : Nat) {fam : List iE} {k : Nat} (hk : k < fam.length) {l : List cZ} {m : List Int} {s : MS} (hl : 0 < l.length) (hf : fam.getD k dM = iX l m false s) (inp : List Int) : fw n (k + 1) inp fam = some (0, fam.set k (iX l m true (jn s.ret inp))) := by
 unfold fw
 rw [nb dM hk, hf]
 unfold iX
 dsimp only
 rw [K5 n hl, ae]
 rfl
theorem rU {l : List cZ} {m : List Int} {c : CS} {i : Nat} (h : c.on = true) (hp : c.s.at_ = (i : Int)) : d9 l m c = ⟨decide (opAt l i ≠ 25), eC (l.getD i (0, 0, 0)) (m.getD i 0) c.s c.mem, l9 (l.getD i (0, 0, 0)) c.s c.mem⟩ := by
 unfold d9
 rw [if_pos h, show c.s.at_.toNat = i by rw [hp]; exact ai i]
theorem Gz (l : List cZ) (m : List Int) (k : Nat) (c : CS) : eD l m (k + 1) c = d9 l m (eD l m k c) := AM k 1 c
theorem AX {l : List cZ} {m h : List Int} {st : List ByteArray} (hR : Row l m h st) {n : Nat} (hf : l.length < n) (ret inp : List Int) (mem : dN) : ∀ k, (eD l m k ⟨true, jn ret inp, mem⟩).on = true → ∃ i rs, Ok l m st (eD l m k ⟨true, jn ret inp, mem⟩).s i rs ∧ InvP bM sw IL l m n 0 (l.length - 1) i rs (k : Int)
 | 0, _ => ⟨0, [], DB hR ret inp, InvP.start zy hR.fine.all⟩
 | k + 1, hon => by
  rw [Gz] at hon ⊢
  generalize hc : eD l m k ⟨true, jn ret inp, mem⟩ = c at hon ⊢
  cases h1 : c.on with
  | false =>
   unfold d9 at hon
   rw [if_neg (by rw [h1]; decide), h1] at hon
   cases hon
  | true =>
   obtain ⟨i, rs, hO, hI⟩ := AX hR hf ret inp mem k (by rw [hc]; exact h1)
   rw [hc] at hO
   have hF := hR.fine
   have hl := hF.len
   rw [rU h1 hO.place] at hon ⊢
   have h25 : opAt l i ≠ 25 := aT hon
   obtain ⟨q, rs', hq, hp, hg, he⟩ := (Fi hR hO c.mem h25).ex
   have hz : i ≠ l.length - 1 := fun e => h25 ((yP hF hO.lt).2 (by omega))
   exact ⟨q, rs', hq, hg bM sw IL n 0 (l.length - 1) _ zy hf hF.all hI hz⟩
theorem La {K : Nat} (hK : 5000 ≤ K) {l : List cZ} {m h : List Int} {st : List ByteArray} (hR : Row l m h st) {n : Nat} (hf : l.length < n) (hw : em bM l m n 0 (l.length - 1) < 5000) (ret inp : List Int) (mem : dN) : (eD l m K ⟨true, jn ret inp, mem⟩).on = false := by
 cases hon : (eD l m K ⟨true, jn ret inp, mem⟩).on with
 | false => rfl
 | true =>
  exfalso
  obtain ⟨i, rs, hO, hI⟩ := AX hR hf ret inp mem K hon
  obtain ⟨M, hM⟩ : ∃ M : Nat, nq l m i rs ≤ (M : Int) := ⟨(nq l m i rs).toNat, by omega⟩
  have := Fl hR hf (by omega) M hM hO hI
  omega
theorem uW {l : List cZ} {m h : List Int} {st : List ByteArray} (hR : Row l m h st) {P : CS → Prop} (hs : ∀ c i rs, c.on = true → Ok l m st c.s i rs → P c → P ⟨decide (opAt l i ≠ 25), eC (l.getD i (0, 0, 0)) (m.getD i 0) c.s c.mem, l9 (l.getD i (0, 0, 0)) c.s c.mem⟩) : ∀ k {c : CS}, o9 l m st c → P c → P (eD l m k c)
 | 0, c, hc, h0 => h0
 | k + 1, c, hc, h0 => by
  refine uW hR hs k (yO hR hc 0).2 ?_
  cases hon : c.on with
  | false =>
   unfold d9
   rw [if_neg (by rw [hon]; decide)]
   exact h0
  | true =>
   obtain ⟨i, rs, hO⟩ := hc hon
   rw [rU hon hO.place]
   exact hs c i rs hon hO h0
theorem Jb (n : Nat) {l : List cZ} {m h : List Int} {st : List ByteArray} (hR : Row l m h st) (fam0 : List iE) {k : Nat} (hk : k < fam0.length) (i1 i2 i3 i4 : Int) (sf : List Int) (bl : List (List Int)) (ts : List Tsk) (ms : List Nat) (out : List Int) : ∀ (j f : Nat) (c : CS), j < f → o9 l m st c → c.on = true → (eD l m (j + 1) c).on = false →
  it (fun F => (fg (dZ q_)) (uq n F)) f (fam0.set k (iX l m c.on c.s), k + 1, i1, i2, i3, i4, sf, bl, ts, ms, c.mem, out) = some (fam0.set k (iX l m false (eD l m (j + 1) c).s), k + 1, i1, i2, i3, i4, sf, bl, ts, ms, (eD l m (j + 1) c).mem, out)
 | j, 0, c, hj, _, _, _ => by omega
 | j, f + 1, c, hj, hc, hon, hoff => by
  show uq n (it _ f) (fam0.set k (iX l m c.on c.s)) (k + 1) i1 i2 i3 i4 sf bl ts ms c.mem out = _
  unfold uq
  have hl : k < (fam0.set k (iX l m c.on c.s)).length := by rw [aM]; exact hk
  obtain ⟨ev, e, he⟩ := I9 hR hc n hl (iw hk) i1 i2 i3 i4 sf bl ts ms out
  rw [he, ae]
  dsimp only
  rw [List.set_set]
  have hl2 : k < (fam0.set k (iX l m (d9 l m c).on (d9 l m c).s)).length := by rw [aM]; exact hk
  rw [Ec n hl2 (iw hk), ae]
  dsimp only
  by_cases h1 : (d9 l m c).on = true
  ·rw [if_pos h1]
   cases j with
   | zero =>
    have e2 : eD l m (0 + 1) c = d9 l m c := rfl
    rw [e2, h1] at hoff
    cases hoff
   | succ j =>
    have h2 : eD l m (j + 1 + 1) c = eD l m (j + 1) (d9 l m c) := rfl
    rw [h2] at hoff ⊢
    exact Jb n hR fam0 hk i1 i2 i3 i4 sf bl ts ms out j f (d9 l m c) (by omega) (yO hR hc 0).2 h1 hoff
  ·have h3 : (d9 l m c).on = false := by cases h : (d9 l m c).on with | false => rfl | true => exact absurd h h1
   have e2 : eD l m (j + 1) c = d9 l m c := AL h3 j
   rw [if_neg h1, e2, h3]
abbrev tz : Tsk := (0, 0, 0, 0, [], [], [])
structure TaskG (m : Img) (t : Tsk) : Prop where
 row : Row t.code (scanI t.code).1 (scanI t.code).2.1 (l6 t.code)
 lock : d7 t.code = 0
 stk : eM t.code = 0
 own : fQ t.code = t.blocks
 name : ∀ i, i < t.code.length → lz m t (t.code.getD i (0, 0, 0)) = true
 ok : lA m t
 fin : em bM t.code (scanI t.code).1 30000 0 (t.code.length - 1) < 5000
structure GoodM (m : Img) : Prop where
 right : RightP m
 task : ∀ k, k < m.tasks.length → TaskG m (m.tasks.getD k tz)
theorem GA {m : Img} (h : Sh.Sm OI m) : ∃ b, yl 30000 m = some b ∧ (b = true → DK m ∧ ∀ k, k < m.tasks.length → (fx bM 30000 (m.tasks.getD k tz).code).2 = 0 → (fx bM 30000 (m.tasks.getD k tz).code).1 ≤ 5000) := by
 have hn1 : 200 < 30000 := by decide
 have hn2 : 30000 < 1000000 := by decide
 unfold yl
 rcases I8 30000 hn1 hn2 h with hl | ⟨hl, hL⟩
 ·rw [show nC 30000 (m.1, m.2.1, m.2.2.1, m.2.2.2.1, m.2.2.2.2.1, m.2.2.2.2.2.1, m.2.2.2.2.2.2) = some 0 from hl, ae, if_pos (by decide)]
  exact ⟨false, rfl, fun h => by cases h⟩
 rw [show nC 30000 (m.1, m.2.1, m.2.2.1, m.2.2.2.1, m.2.2.2.2.1, m.2.2.2.2.2.1, m.2.2.2.2.2.2) = some 1 from hl, ae, if_neg (by decide)]
 obtain ⟨i1, i2, i3, i4, sf, bl, ts⟩ := m
 dsimp only
 have hts : ts.length ≤ 80 := by have := hL.1; dsimp only [Img.safe, Img.blocks, Img.tasks] at this; omega
 have key : ∃ r, tY 30000 (0, i1, i2, i3, i4, sf, bl, ts) = some r ∧ ((∃ X, r = .inl ((false, ()), X)) ∨ ((∃ X, r = .inr X) ∧ ∀ k, k < ts.length → (fx bM 30000 (ts.getD k tz).code).2 = 0 → (fx bM 30000 (ts.getD k tz).code).1 ≤ 5000)) := by
  show ∃ r, it _ 30000 _ = some r ∧ _
  refine ly (fun f x => ∃ k : Nat, k ≤ ts.length ∧ ts.length < f + k ∧ (∀ j, j < k → (fx bM 30000 (ts.getD j tz).code).2 = 0 → (fx bM 30000 (ts.getD j tz).code).1 ≤ 5000) ∧ x = ((k : Int), i1, i2, i3, i4, sf, bl, ts)) _ (fun x ⟨k, h1, h2, _⟩ => by omega) ?_ 30000 _ ⟨0, by omega, by omega, fun j hj => by omega, rfl⟩
  rintro f x F hF ⟨k, h1, h2, h3, rfl⟩
  show ∃ r, vr 30000 F (k : Int) i1 i2 i3 i4 sf bl ts = some r ∧ _
  unfold vr
  rcases am k ts.length with hk | hk
  ·have hc : (ts.getD k tz).code.length ≤ 4019 := hL.2 _ (by rw [au, ax hk]; exact bP _)
   rw [if_pos (af (by omega)), if_pos (dc hk), ai]
   rw [show gi 30000 (ts.getD k (0, 0, 0, 0, [], [], [])).2.2.2.2.2.2 = _ from Dr 30000 (ts.getD k tz).code (by omega) (by omega) hn2, ae, dB (by omega)]
   by_cases h0 : (fx bM 30000 (ts.getD k tz).code).2 = 0
   ·rw [if_pos (ah.2 h0)]
    by_cases hb : (fx bM 30000 (ts.getD k tz).code).1 > 5000
    ·rw [if_pos (af hb)]
     exact ⟨_, rfl, .inl ⟨_, rfl⟩⟩
    ·rw [if_neg (fun h => hb (aT h))]
     refine hF _ ⟨k + 1, by omega, by omega, fun j hj h0 => ?_, rfl⟩
     by_cases e : j = k
     ·subst e; omega
     ·exact h3 j (by omega) h0
   ·rw [if_neg (fun h => h0 (ah.1 h))]
    refine hF _ ⟨k + 1, by omega, by omega, fun j hj hz => ?_, rfl⟩
    by_cases e : j = k
    ·subst e; exact absurd hz h0
    ·exact h3 j (by omega) hz
  ·rw [if_neg (by simp; omega)]
   exact ⟨_, rfl, .inr ⟨⟨_, rfl⟩, fun j hj => h3 j (by omega)⟩⟩
 obtain ⟨r, e1, e2⟩ := key
 rw [e1, ae]
 rcases e2 with ⟨X, rfl⟩ | ⟨⟨X, rfl⟩, e2⟩
 ·exact ⟨false, rfl, fun h => by cases h⟩
 ·exact ⟨true, rfl, fun _ => ⟨hL, e2⟩⟩
theorem Lb (m : Img) : ∃ x e, mA 30000 m = some (x, e) ∧ (e = 0 → RightP m ∧ ∀ k : Nat, k < m.tasks.length → nI 30000 m (k : Int) = 0) := by
 have hn1 : 200 < 30000 := by decide
 have hn2 : 30000 < 1000000 := by decide
 unfold mA
 obtain ⟨b, hb1, hb2⟩ := uV 30000 hn1 hn2 m
 rw [show ry 30000 (m.1, m.2.1, m.2.2.1, m.2.2.2.1, m.2.2.2.2.1, m.2.2.2.2.2.1, m.2.2.2.2.2.2) = some b from hb1, ae]
 cases b with
 | false => exact ⟨-1, 12, rfl, fun h => by cases h⟩
 | true =>
  have hR := hb2.1 rfl
  rw [if_neg (by decide)]
  have ht8 : m.tasks.length ≤ 8 := hR.1.2.2.2.2.2.2.2
  obtain ⟨i1, i2, i3, i4, sf, bl, ts⟩ := m
  dsimp only [Img.tasks] at ht8 ⊢
  have key : ∃ r, lZ 30000 ((ts.length : Int), 0, i1, i2, i3, i4, sf, bl, ts) = some r ∧ ((∃ a e X, r = .inl ((a, e, ()), X) ∧ e ≠ 0) ∨ ((∃ X, r = .inr X) ∧ ∀ k : Nat, k < ts.length → nI 30000 (i1, i2, i3, i4, sf, bl, ts) (k : Int) = 0)) := by
   show ∃ r, it _ 30000 _ = some r ∧ _
   refine ly (fun f x => ∃ k : Nat, k ≤ ts.length ∧ ts.length < f + k ∧ (∀ j : Nat, j < k → nI 30000 (i1, i2, i3, i4, sf, bl, ts) (j : Int) = 0) ∧ x = ((ts.length : Int), (k : Int), i1, i2, i3, i4, sf, bl, ts)) _ (fun x ⟨k, h1, h2, _⟩ => by omega) ?_ 30000 _ ⟨0, by omega, by omega, fun j hj => by omega, rfl⟩
   rintro f x F hF ⟨k, h1, h2, h3, rfl⟩
   show ∃ r, lk 30000 F (ts.length : Int) (k : Int) i1 i2 i3 i4 sf bl ts = some r ∧ _
   unfold lk
   rcases am k ts.length with hk | hk
   ·rw [if_pos (af (by omega)), Mk 30000 hn1 hn2 (i1, i2, i3, i4, sf, bl, ts) (k : Int), ae]
    by_cases h0 : nI 30000 (i1, i2, i3, i4, sf, bl, ts) (k : Int) = 0
    ·rw [if_neg (by rw [h0]; decide), dB (by omega)]
     refine hF _ ⟨k + 1, by omega, by omega, fun j hj => ?_, rfl⟩
     by_cases e : j = k
     ·subst e; exact h0
     ·exact h3 j (by omega)
    ·rw [if_pos (aw.2 h0)]
     exact ⟨_, rfl, .inl ⟨_, _, _, rfl, h0⟩⟩
   ·rw [if_neg (by simp; omega)]
    exact ⟨_, rfl, .inr ⟨⟨_, rfl⟩, fun j hj => h3 j (by omega)⟩⟩
  obtain ⟨r, e1, e2⟩ := key
  rw [e1, ae]
  rcases e2 with ⟨a, e, X, rfl, he⟩ | ⟨⟨X, rfl⟩, e2⟩
  ·exact ⟨a, e, rfl, fun h => absurd h he⟩
  ·exact ⟨-1, 0, rfl, fun _ => ⟨hR, e2⟩⟩
theorem Mm {m : Img} (hR : RightP m) (hT : ∀ k : Nat, k < m.tasks.length → nI 30000 m (k : Int) = 0) (hL : ∀ k, k < m.tasks.length → (fx bM 30000 (m.tasks.getD k tz).code).2 = 0 → (fx bM 30000 (m.tasks.getD k tz).code).1 ≤ 5000) : GoodM m := by
 refine ⟨hR, fun k hk => ?_⟩
 obtain ⟨_, h0, h2, h3, h4⟩ := Gy (hT k hk)
 have e : qx m (k : Int) = m.tasks.getD k tz := by show m.tasks.getD (k : Int).toNat tz = _; rw [ai]
 rw [e] at h2 h3 h4
 obtain ⟨z1, z2⟩ := xx h2
 obtain ⟨q1, q2, q3, q4, q5⟩ := KV 30000 (m.tasks.getD k tz).code h2
 have hl := hL k hk h2
 have hok := (hR.task (i := (k : Int)) (by omega) (by omega)).1
 rw [ai] at hok
 refine ⟨OE z1 z2, z1, z2, h3, fun i hi => ?_, hok, by omega⟩
 exact aN.1 h4 ((m.tasks.getD k tz).code.getD i (0, 0, 0)) (by rw [vy hi]; exact bP _)
def DM (tq : List Int) (set : Int) : Prop := ∃ x : Nat, set = (x : Int) ∧ x < 65536 ∧ ∀ k, x.testBit k = true → (k : Int) ∈ tq
theorem Lc {tq out : List Int} {set : Int} (h : DM tq set) : ∀ e ∈ jD out set, e.1 ∈ tq := by
 obtain ⟨x, h1, h2, h3⟩ := h
 subst h1
 have key : ∀ r k, r + k ≤ 16 → ∀ e ∈ nH out (x : Int) r k, e.1 ∈ tq := by
  intro r
  induction r with
  | zero => intro k _ e he; cases he
  | succ r ih =>
   intro k hk e he
   unfold nH at he
   rcases aA.1 he with h | h
   ·rw [Mb h2 (by omega)] at h
    split at h
    ·rename_i hb
     have := aq.1 h
     rw [this]
     exact h3 k hb
    ·cases h
   ·exact ih (k + 1) (by omega) e h
 exact key 16 0 (by omega)
theorem Ld {tq : List Int} {s : MS} {x : cZ} {mt : Int} {mem : dN} (hr : dg x = true) (ho : DM tq s.set) (hx : x.1 = 16 → x.2.1 ∈ tq) : DM tq (eC x mt s mem).set := by
 obtain ⟨w, h1, h2, h3⟩ := ho
 show DM tq (if x.1 = 16 then bits .or .i64 s.set (l8 x.2.1) else s.set)
 split
 ·rename_i h16
  have ha := vF (o := x.1) (A := x.2.1) (B := x.2.2) (.inr h16) hr
  obtain ⟨b1, b2⟩ := Fj (A := x.2.1) (a := x.2.1.toNat) (by omega) (by omega)
  refine ⟨w ||| 2 ^ x.2.1.toNat, by rw [h1, b1, DD w _ h2 b2], Nat.or_lt_two_pow (n := 16) h2 b2, fun k hk => ?_⟩
  rw [Nat.testBit_or, aE] at hk
  rcases hk with hk | hk
  ·exact h3 k hk
  ·rw [Nat.testBit_two_pow, av] at hk
   have : (k : Int) = x.2.1 := by omega
   rw [this]
   exact hx h16
 ·exact ⟨w, h1, h2, h3⟩
structure WM where
 ret : List (List Int)
 mem : dN
 out : List Int
abbrev dP (ts : List Tsk) (k : Nat) : List cZ := (ts.getD k tz).code
structure Rep (fam : List iE) (p : Nat) (ts : List Tsk) (ret : List (List Int)) : Prop where
 le : p + ts.length ≤ fam.length
 len : ret.length = ts.length
 mb : ∀ k, k < ts.length → ∃ s : MS, fam.getD (p + k) dM = iX (dP ts k) (scanI (dP ts k)).1 false s ∧ s.ret = ret.getD k []
abbrev gq (p T : Nat) : List Nat := List.range' (p + 1) T
theorem AY {p T k : Nat} (hk : k < T) : (gq p T).getD k 0 = p + k + 1 := by
 rw [au, List.getElem?_range' hk]
 show p + 1 + 1 * k = _
 omega
theorem Rep.put {fam : List iE} {p : Nat} {ts : List Tsk} {ret : List (List Int)} (h : Rep fam p ts ret) {k : Nat} (hk : k < ts.length) (s : MS) : Rep (fam.set (p + k) (iX (dP ts k) (scanI (dP ts k)).1 false s)) p ts (ret.set k s.ret) := by
 have hle := h.le
 refine ⟨by rw [aM]; exact hle, by rw [aM]; exact h.len, fun j hj => ?_⟩
 by_cases e : k = j
 ·subst e
  exact ⟨s, iw (by omega), (iw (by rw [h.len]; exact hk)).symm⟩
 ·obtain ⟨s', h1, h2⟩ := h.mb j hj
  exact ⟨s', by rw [mf (by omega)]; exact h1, by rw [mf e]; exact h2⟩
theorem Rep.far {fam fam' : List iE} {p : Nat} {ts : List Tsk} {ret : List (List Int)} (h : Rep fam p ts ret) (hl : fam.length ≤ fam'.length) (hj : ∀ j, p ≤ j → j < p + ts.length → fam'.getD j dM = fam.getD j dM) : Rep fam' p ts ret := by
 have hle := h.le
 refine ⟨by omega, h.len, fun k hk => ?_⟩
 rw [hj _ (by omega) (by omega)]
 exact h.mb k hk
def fy (K : Nat) (l : List cZ) (ret inp : List Int) (mem : dN) : CS := eD l (scanI l).1 K ⟨true, jn ret inp, mem⟩
def uX (out : List Int) (os : List (Int × Int)) : List Int := os.foldl (fun o e => o.set e.1.toNat e.2) out
theorem DN : ∀ (os : List (Int × Int)) (out : List Int), (uX out os).length = out.length
 | [], out => rfl
 | e :: os, out => by
  show (uX (out.set e.1.toNat e.2) os).length = _
  rw [DN os, aM]
def mg (K : Nat) (ts : List Tsk) (i : Int) (inp : List Int) (W : WM) : List (Int × Int) × Int × WM :=
 if 0 ≤ i ∧ i < (ts.length : Int) then
  (jD (fy K (dP ts i.toNat) (W.ret.getD i.toNat []) inp W.mem).s.out (fy K (dP ts i.toNat) (W.ret.getD i.toNat []) inp W.mem).s.set, 0,
   ⟨W.ret.set i.toNat (fy K (dP ts i.toNat) (W.ret.getD i.toNat []) inp W.mem).s.ret, (fy K (dP ts i.toNat) (W.ret.getD i.toNat []) inp W.mem).mem, uX W.out (jD (fy K (dP ts i.toNat) (W.ret.getD i.toNat []) inp W.mem).s.out (fy K (dP ts i.toNat) (W.ret.getD i.toNat []) inp W.mem).s.set)⟩)
 else ([], 14, W)
theorem pb {l : List cZ} {m h : List Int} {st : List ByteArray} (hR : Row l m h st) (ret inp : List Int) (mem : dN) : o9 l m st ⟨true, jn ret inp, mem⟩ := fun _ => ⟨0, [], DB hR ret inp⟩
theorem Mn {K : Nat} (hK : 5000 ≤ K) {m : Img} {t : Tsk} (h : TaskG m t) (ret inp : List Int) (mem : dN) : (fy K t.code ret inp mem).on = false := by
 have := h.row.fine.len
 have := h.fin
 unfold fy
 exact La hK h.row (n := 30000) (by omega) (by omega) ret inp mem
theorem Le (K : Nat) {m : Img} {t : Tsk} (h : TaskG m t) (ret inp : List Int) (mem : dN) : ∀ e ∈ jD (fy K t.code ret inp mem).s.out (fy K t.code ret inp mem).s.set, e.1 ∈ t.outs := by
 refine Lc ?_
 unfold fy
 refine uW h.row (P := fun c => DM t.outs c.s.set) (fun c i rs hon hO hP => ?_) K (pb h.row ret inp mem) ⟨0, rfl, by decide, fun k hk => by rw [Nat.zero_testBit] at hk; cases hk⟩
 refine Ld (h.row.fine.right hO.lt) hP (fun h16 => ?_)
 have := h.name i hO.lt
 unfold lz at this
 rw [if_neg (show ¬ (t.code.getD i (0, 0, 0)).1 = 15 by rw [h16]; decide), if_pos h16] at this
 exact List.contains_iff_mem.1 this
theorem OJ (n : Nat) (N : Nat) (fam : List iE) (q : Nat) (i1 i2 i3 i4 : Int) (sf : List Int) (bl : List (List Int)) (ts : List Tsk) (ms : List Nat) (mem : dN) {os : List (Int × Int)} (h16 : os.length ≤ 16) (hn : 16 < n) (hos : ∀ e ∈ os, 0 ≤ e.1 ∧ e.1 < (N : Int)) {out : List Int} (ho : out.length = N) :
  rB n (os, (os.length : Int), 0, fam, q, i1, i2, i3, i4, sf, bl, ts, ms, mem, out) = some (fam, q, i1, i2, i3, i4, sf, bl, ts, ms, mem, uX out os) := by
 have key : ∃ r, rB n (os, (os.length : Int), 0, fam, q, i1, i2, i3, i4, sf, bl, ts, ms, mem, out) = some r ∧ r = (fam, q, i1, i2, i3, i4, sf, bl, ts, ms, mem, uX out os) := by
  show ∃ r, it _ n _ = some r ∧ _
  refine ly (fun f x => ∃ (k : Nat) (o : List Int), k ≤ os.length ∧ os.length < f + k ∧ o.length = N ∧ uX o (os.drop k) = uX out os ∧ x = (os, (os.length : Int), (k : Int), fam, q, i1, i2, i3, i4, sf, bl, ts, ms, mem, o)) _ (fun x ⟨k, o, h1, h2, _⟩ => by omega) ?_ n _ ⟨0, out, by omega, by omega, ho, rfl, rfl⟩
  rintro f x F hF ⟨k, o, h1, h2, h3, h4, rfl⟩
  show ∃ r, yw n F os (os.length : Int) (k : Int) fam q i1 i2 i3 i4 sf bl ts ms mem o = some r ∧ _
  unfold yw
  rcases am k os.length with hk | hk
  ·have hm : os.getD k (0, 0) ∈ os := by rw [au, ax hk]; exact bP _
   have hb := hos _ hm
   rw [eE (d := ((0 : Int), (0 : Int))) hk] at h4
   rw [if_pos (af (by omega)), if_pos (dc hk), ai, if_pos (zD hb.1 (by rw [h3]; exact hb.2)), dB (by omega)]
   exact hF _ ⟨k + 1, _, by omega, by omega, by rw [aM]; exact h3, h4, rfl⟩
  ·rw [if_neg (by simp; omega)]
   rw [List.drop_eq_nil_of_le hk] at h4
   exact ⟨_, rfl, by rw [← h4]; rfl⟩
 obtain ⟨r, e1, e2⟩ := key
 rw [e1, e2]
theorem DO {K : Nat} (hK : 5000 ≤ K ∧ K < 20000) {i1 i2 i3 i4 : Int} {sf : List Int} {bl : List (List Int)} {ts : List Tsk} (hG : GoodM (i1, i2, i3, i4, sf, bl, ts)) {fam : List iE} {p : Nat} {W : WM} (hr : Rep fam p ts W.ret) (ho : W.out.length = sf.length) (i : Int) (inp : List Int) :
  ∃ fam', vv 30000 i inp fam i1 i2 i3 i4 sf bl ts (gq p ts.length) W.mem W.out = some ((mg K ts i inp W).1, (mg K ts i inp W).2.1, fam', i1, i2, i3, i4, sf, bl, ts, gq p ts.length, (mg K ts i inp W).2.2.mem, (mg K ts i inp W).2.2.out) ∧ Rep fam' p ts (mg K ts i inp W).2.2.ret ∧ fam'.length = fam.length ∧ (∀ j, j < p ∨ p + ts.length ≤ j → fam'.getD j dM = fam.getD j dM) ∧ (mg K ts i inp W).2.2.out.length = sf.length := by
 have hT : 1 ≤ ts.length ∧ ts.length ≤ 8 := hG.right.1.2.2.2.2.2.2
 unfold vv mg
 rw [show (gq p ts.length).length = ts.length from List.length_range', if_neg (fun h => by have := ah.1 h; omega)]
 by_cases h0 : 0 ≤ i
 ·by_cases h1 : i < (ts.length : Int)
  ·obtain ⟨k, rfl⟩ : ∃ k : Nat, i = (k : Int) := ⟨i.toNat, by omega⟩
   have hk : k < ts.length := by omega
   have ht := hG.task k hk
   have hle := hr.le
   have hpk : p + k < fam.length := by omega
   obtain ⟨s, hs1, hs2⟩ := hr.mb k hk
   rw [if_pos (af h0), if_neg (by rw [af h1]; decide), if_pos (zD h0 h1), if_pos ⟨h0, h1⟩, ai, AY hk]
   rw [Ja 30000 hpk ht.row.fine.len.1 hs1, ae]
   dsimp only
   rw [hs2]
   have hoff := Mn hK.1 ht (W.ret.getD k []) inp W.mem
   obtain ⟨K0, hK0⟩ : ∃ K0, K = K0 + 1 := ⟨K - 1, by omega⟩
   unfold fy at hoff
   rw [hK0] at hoff
   have hrun := Jb 30000 ht.row fam hpk i1 i2 i3 i4 sf bl ts (gq p ts.length) W.out K0 30000 ⟨true, jn (W.ret.getD k []) inp, W.mem⟩ (by omega) (pb ht.row _ _ _) rfl hoff
   rw [← hK0] at hrun
   rw [show xf 30000 (fam.set (p + k) (iX (dP ts k) (scanI (dP ts k)).1 true (jn (W.ret.getD k []) inp)), p + k + 1, i1, i2, i3, i4, sf, bl, ts, gq p ts.length, W.mem, W.out) = some (fam.set (p + k) (iX (dP ts k) (scanI (dP ts k)).1 false (fy K (dP ts k) (W.ret.getD k []) inp W.mem).s), p + k + 1, i1, i2, i3, i4, sf, bl, ts, gq p ts.length, (fy K (dP ts k) (W.ret.getD k []) inp W.mem).mem, W.out) from hrun, ae]
   dsimp only
   have houts := Le K ht (W.ret.getD k []) inp W.mem
   have hpos : ∀ e ∈ jD (fy K (dP ts k) (W.ret.getD k []) inp W.mem).s.out (fy K (dP ts k) (W.ret.getD k []) inp W.mem).s.set, 0 ≤ e.1 ∧ e.1 < (sf.length : Int) := fun e he => by
    have := ht.ok.2.2.1.mem _ (houts e he)
    have h2 : e.1 < (sf.length : Int) := this.2
    omega
   generalize fy K (dP ts k) (W.ret.getD k []) inp W.mem = c at *
   have hpk2 : p + k < (fam.set (p + k) (iX (dP ts k) (scanI (dP ts k)).1 false c.s)).length := by rw [aM]; exact hpk
   rw [DL 30000 (by decide) hpk2 (iw hpk), ae]
   dsimp only
   rw [OJ 30000 sf.length _ _ i1 i2 i3 i4 sf bl ts _ c.mem (uR c.s.out c.s.set) (by decide) hpos ho, ae]
   dsimp only
   rw [DL 30000 (by decide) hpk2 (iw hpk), ae]
   exact ⟨_, rfl, hr.put hk c.s, aM, fun j hj => mf (by omega), by show (uX _ _).length = _; rw [DN]; exact ho⟩
  ·rw [if_pos (af h0), if_pos (by rw [bq h1]; rfl), if_neg (fun h => h1 h.2)]
   exact ⟨_, rfl, hr, rfl, fun j _ => rfl, ho⟩
 ·rw [if_neg (fun h => h0 (aT h)), if_neg (fun h => h0 h.1)]
  exact ⟨_, rfl, hr, rfl, fun j _ => rfl, ho⟩
theorem Ed {fam : List iE} {p : Nat} {ts : List Tsk} {ret : List (List Int)} (hr : Rep fam p ts ret) (n : Nat) (i : Int) (i1 i2 i3 i4 : Int) (sf : List Int) (bl : List (List Int)) (ts' : List Tsk) (mem : dN) (out : List Int) :
  gM n i fam i1 i2 i3 i4 sf bl ts' (gq p ts.length) mem out = some (if 0 ≤ i ∧ i < (ts.length : Int) then ret.getD i.toNat [] else z8, fam, i1, i2, i3, i4, sf, bl, ts', gq p ts.length, mem, out) := by
 unfold gM
 rw [show (gq p ts.length).length = ts.length from List.length_range']
 by_cases h0 : 0 ≤ i
 ·by_cases h1 : i < (ts.length : Int)
  ·obtain ⟨k, rfl⟩ : ∃ k : Nat, i = (k : Int) := ⟨i.toNat, by omega⟩
   have hk : k < ts.length := by omega
   have hle := hr.le
   obtain ⟨s, hs1, hs2⟩ := hr.mb k hk
   rw [if_pos (af h0), if_neg (by rw [af h1]; decide), if_pos (zD h0 h1), ai, AY hk, Ml n (by omega) hs1, ae, if_pos ⟨h0, h1⟩, hs2]
  ·rw [if_pos (af h0), if_pos (by rw [bq h1]; rfl), if_neg (fun h => h1 h.2)]
 ·rw [if_neg (fun h => h0 (aT h)), if_neg (fun h => h0 h.1)]
abbrev OK : MS := ⟨z8, 0, [], z8, z16, z16, 0, [], 0, 0, 0⟩
abbrev pD (t : Tsk) : iE := iX t.code (scanI t.code).1 false OK
theorem Lf {m : Img} {t : Tsk} (h : TaskG m t) (fam : List iE) : jA 30000 t.code fam = some (fam.length + 1, 0, fam ++ [pD t]) := by
 have hl := h.row.fine.len
 unfold jA
 rw [uD 30000 t.code (by omega) (by omega), ae]
 dsimp only
 rw [if_neg (by simp [h.lock]), Gk 30000 t.code (by omega) (by omega) (by omega), ae]
 dsimp only
 rw [if_neg (by simp [h.stk]), rM 30000 t.code (by omega) (by omega), ae, if_pos (OF hl.2)]
 rfl
theorem Rep.new (fam : List iE) (ts : List Tsk) : Rep (fam ++ ts.map pD) fam.length ts (List.replicate ts.length z8) := by
 refine ⟨by rw [aF, b9]; omega, bU, fun k hk => ⟨OK, ?_, ?_⟩⟩
 ·rw [au, aX (by omega), Nat.add_sub_cancel_left, bI, ax hk]
  show pD ts[k] = _
  rw [show ts[k] = ts.getD k tz by rw [au, ax hk]; rfl]
 ·rw [au, bD, if_pos hk]
  rfl
theorem Lg {α : Type} {xs ys : List α} {d : α} {j : Nat} (h : j < xs.length) : (xs ++ ys).getD j d = xs.getD j d := by
 rw [au, aO h, ← au]
theorem Rep.app {fam : List iE} {p : Nat} {ts : List Tsk} {ret : List (List Int)} (h : Rep fam p ts ret) (ys : List iE) : Rep (fam ++ ys) p ts ret := by
 have := h.le
 exact h.far (by rw [aF]; omega) (fun j h1 h2 => Lg (by omega))
abbrev OL (bl : List (List Int)) (mem : dN) (k : Nat) : dN := mem.set k ((bl.getD k []).take (min (bl.getD k []).length 8) ++ (mem.getD k z8).drop (min (bl.getD k []).length 8))
def oM (bl : List (List Int)) : Nat → dN
 | 0 => qv
 | k + 1 => OL bl (oM bl k) k
theorem xB (bl : List (List Int)) : ∀ k, (oM bl k).length = 8
 | 0 => rfl
 | k + 1 => by
  show (OL bl (oM bl k) k).length = 8
  rw [aM]
  exact xB bl k
theorem Ee {x : cZ} {mem mem' : dN} (h : x.1 = 17 → mem.getD x.2.1.toNat z8 = mem'.getD x.2.1.toNat z8) (mt : Int) (s : MS) : eC x mt s mem = eC x mt s mem' := by
 have e : fI x s mem = fI x s mem' := by
  unfold fI
  by_cases h17 : x.1 = 17
  ·rw [h h17]
  ·simp only [if_neg h17]
 unfold eC
 rw [e]
structure Agree (t : Tsk) (mem mem' : dN) : Prop where
 len : mem.length = 8 ∧ mem'.length = 8
 own : ∀ b ∈ t.blocks, mem.getD b.toNat z8 = mem'.getD b.toNat z8
theorem Jc {m : Img} {t : Tsk} (h : TaskG m t) (hR : RightP m) {i : Nat} (hi : i < t.code.length) (ho : opAt t.code i = 17 ∨ opAt t.code i = 18) : dd t.code i ∈ t.blocks ∧ 0 ≤ dd t.code i ∧ dd t.code i < 8 := by
 have h1 := yS h.lock hi ho
 rw [h.own] at h1
 have h2 := h.ok.2.1.mem _ h1
 have h3 : m.blocks.length ≤ 8 := hR.1.2.2.2.2.2.1
 exact ⟨h1, by omega, by omega⟩
theorem DP {x : cZ} (h : x.1 ≠ 18) (s : MS) (mem : dN) : l9 x s mem = mem := by
 unfold l9
 rw [if_neg h]
theorem DQ {x : cZ} (h : x.1 = 18) (s : MS) (mem : dN) : l9 x s mem = mem.set x.2.1.toNat ((mem.getD x.2.1.toNat z8).set x.2.2.toNat (pv s.stk)) := by
 unfold l9
 rw [if_pos h]
theorem xC (x : cZ) (s : MS) (mem : dN) : (l9 x s mem).length = mem.length := by
 unfold l9
 split
 ·exact aM
 ·rfl
theorem GB {m : Img} {t : Tsk} (h : TaskG m t) (hR : RightP m) {i : Nat} (hi : i < t.code.length) {mem mem' : dN} (ha : Agree t mem mem') (mt : Int) (s : MS) :
  eC (t.code.getD i (0, 0, 0)) mt s mem = eC (t.code.getD i (0, 0, 0)) mt s mem' ∧ Agree t (l9 (t.code.getD i (0, 0, 0)) s mem) (l9 (t.code.getD i (0, 0, 0)) s mem') := by
 refine ⟨Ee (fun h17 => ha.own _ (Jc h hR hi (.inl h17)).1) mt s, ?_⟩
 refine ⟨by rw [xC, xC]; exact ha.len, fun b hb => ?_⟩
 by_cases h18 : (t.code.getD i (0, 0, 0)).1 = 18
 ·obtain ⟨o1, o2, o3⟩ := Jc h hR hi (.inr h18)
  have hl := ha.len
  unfold dd at o1 o2 o3
  rw [DQ h18, DQ h18, ha.own _ o1]
  by_cases e : (t.code.getD i (0, 0, 0)).2.1.toNat = b.toNat
  ·rw [← e, iw (by omega), iw (by omega)]
  ·rw [mf e, mf e]
   exact ha.own b hb
 ·rw [DP h18, DP h18]
  exact ha.own b hb
theorem wq {m : Img} {t : Tsk} (h : TaskG m t) (hR : RightP m) : ∀ (k : Nat) {c c' : CS}, o9 t.code (scanI t.code).1 (l6 t.code) c → c.on = c'.on → c.s = c'.s → Agree t c.mem c'.mem →
  (eD t.code (scanI t.code).1 k c).s = (eD t.code (scanI t.code).1 k c').s ∧ Agree t (eD t.code (scanI t.code).1 k c).mem (eD t.code (scanI t.code).1 k c').mem
 | 0, c, c', hc, h1, h2, h3 => ⟨h2, h3⟩
 | k + 1, c, c', hc, h1, h2, h3 => by
  show (eD _ _ k (d9 _ _ c)).s = (eD _ _ k (d9 _ _ c')).s ∧ Agree t (eD _ _ k (d9 _ _ c)).mem (eD _ _ k (d9 _ _ c')).mem
  refine wq h hR k (yO h.row hc 0).2 ?_ ?_ ?_ <;> cases hon : c.on with
  | false =>
   unfold d9
   rw [if_neg (by rw [hon]; decide), if_neg (by rw [← h1, hon]; decide)]
   all_goals first | exact h1 | exact h2 | exact h3
  | true =>
   obtain ⟨i, rs, hO⟩ := hc hon
   have e1 := rU (l := t.code) (m := (scanI t.code).1) hon hO.place
   have e2 := rU (l := t.code) (m := (scanI t.code).1) (c := c') (h1 ▸ hon) (h2 ▸ hO.place)
   obtain ⟨a1, a2⟩ := GB h hR hO.lt h3 ((scanI t.code).1.getD i 0) c.s
   rw [e1, e2, ← h2]
   all_goals first | exact rfl | exact a1 | exact a2
theorem Jd {m : Img} {t : Tsk} (h : TaskG m t) (hR : RightP m) (K : Nat) (ret inp : List Int) {mem mem' : dN} (ha : Agree t mem mem') :
  (fy K t.code ret inp mem).s = (fy K t.code ret inp mem').s ∧ Agree t (fy K t.code ret inp mem).mem (fy K t.code ret inp mem').mem := by
 unfold fy
 exact wq h hR K (pb h.row ret inp mem) rfl rfl ha
theorem Mo {m : Img} {t : Tsk} (h : TaskG m t) (K : Nat) (ret inp : List Int) (mem : dN) : (fy K t.code ret inp mem).mem.length = mem.length := by
 unfold fy
 exact uW h.row (P := fun c => c.mem.length = mem.length) (fun c i rs hon hO hP => (xC _ _ _).trans hP) K (pb h.row ret inp mem) rfl
theorem Mp {m : Img} {t : Tsk} (h : TaskG m t) (K : Nat) (ret inp : List Int) (mem : dN) (h14 : ∀ i, i < t.code.length → opAt t.code i ≠ 14) : (fy K t.code ret inp mem).s.ret = ret := by
 unfold fy
 exact AN h14 K _
theorem Fm : mB 30000 = some true := by kernel_rfl
theorem yT {i1 i2 i3 i4 : Int} {sf : List Int} {bl : List (List Int)} {ts : List Tsk} (hG : GoodM (i1, i2, i3, i4, sf, bl, ts)) (j1 j2 j3 j4 : Int) (jf : List Int) (jb : List (List Int)) (js : List Tsk) (fam : List iE) (mem : dN) (out : List Int) :
  rE 30000 (ts, (ts.length : Int), 0, fam, j1, j2, j3, j4, jf, jb, js, i1, i2, i3, i4, sf, bl, ts, [], mem, out) = some (fam ++ ts.map pD, j1, j2, j3, j4, jf, jb, js, i1, i2, i3, i4, sf, bl, ts, gq fam.length ts.length, mem, out) := by
 have hT : ts.length ≤ 8 := hG.right.1.2.2.2.2.2.2.2
 have key : ∃ r, rE 30000 (ts, (ts.length : Int), 0, fam, j1, j2, j3, j4, jf, jb, js, i1, i2, i3, i4, sf, bl, ts, [], mem, out) = some r ∧ r = (fam ++ ts.map pD, j1, j2, j3, j4, jf, jb, js, i1, i2, i3, i4, sf, bl, ts, gq fam.length ts.length, mem, out) := by
  show ∃ r, it _ 30000 _ = some r ∧ _
  refine ly (fun f x => ∃ k : Nat, k ≤ ts.length ∧ ts.length < f + k ∧ x = (ts, (ts.length : Int), (k : Int), fam ++ (ts.take k).map pD, j1, j2, j3, j4, jf, jb, js, i1, i2, i3, i4, sf, bl, ts, gq fam.length k, mem, out)) _ (fun x ⟨k, h1, h2, _⟩ => by omega) ?_ 30000 _ ⟨0, by omega, by omega, by rw [List.take_zero, List.map_nil, aG]; rfl⟩
  rintro f x F hF ⟨k, h1, h2, rfl⟩
  show ∃ r, yz 30000 F ts (ts.length : Int) (k : Int) (fam ++ (ts.take k).map pD) j1 j2 j3 j4 jf jb js i1 i2 i3 i4 sf bl ts (gq fam.length k) mem out = some r ∧ _
  unfold yz
  rcases am k ts.length with hk | hk
  ·rw [if_pos (af (by omega)), if_pos (dc hk), ai, show jA 30000 (ts.getD k (0, 0, 0, 0, [], [], [])).2.2.2.2.2.2 (fam ++ (ts.take k).map pD) = _ from Lf (hG.task k hk) _, ae]
   dsimp only
   rw [if_pos (by rw [show (gq fam.length k).length = k from List.length_range']; simp; omega), dB (by omega)]
   refine hF _ ⟨k + 1, by omega, by omega, ?_⟩
   rw [List.take_add_one, ax hk, cz, ← aI]
   show _ = (_, _, _, _ ++ [pD ts[k]], _)
   rw [show ts[k] = ts.getD k tz by rw [au, ax hk]; rfl, show gq fam.length (k + 1) = gq fam.length k ++ [fam.length + 1 + k] from List.range'_1_concat, show (fam ++ (ts.take k).map pD).length + 1 = fam.length + 1 + k by rw [aF, b9, List.length_take]; omega]
  ·rw [if_neg (by simp; omega)]
   exact ⟨_, rfl, by rw [aW hk, show k = ts.length by omega]⟩
 obtain ⟨r, e1, e2⟩ := key
 rw [e1, e2]
theorem yU (i1 i2 i3 i4 : Int) (sf : List Int) {bl : List (List Int)} (hb : bl.length ≤ 8) (ts : List Tsk) (fam : List iE) (ms : List Nat) (out : List Int) :
  rF 30000 (bl, (bl.length : Int), 0, fam, i1, i2, i3, i4, sf, bl, ts, ms, qv, out) = some (fam, i1, i2, i3, i4, sf, bl, ts, ms, oM bl bl.length, out) := by
 have key : ∃ r, rF 30000 (bl, (bl.length : Int), 0, fam, i1, i2, i3, i4, sf, bl, ts, ms, qv, out) = some r ∧ r = (fam, i1, i2, i3, i4, sf, bl, ts, ms, oM bl bl.length, out) := by
  show ∃ r, it _ 30000 _ = some r ∧ _
  refine ly (fun f x => ∃ k : Nat, k ≤ bl.length ∧ bl.length < f + k ∧ x = (bl, (bl.length : Int), (k : Int), fam, i1, i2, i3, i4, sf, bl, ts, ms, oM bl k, out)) _ (fun x ⟨k, h1, h2, _⟩ => by omega) ?_ 30000 _ ⟨0, by omega, by omega, rfl⟩
  rintro f x F hF ⟨k, h1, h2, rfl⟩
  show ∃ r, yA 30000 F bl (bl.length : Int) (k : Int) fam i1 i2 i3 i4 sf bl ts ms (oM bl k) out = some r ∧ _
  unfold yA
  rcases am k bl.length with hk | hk
  ·rw [if_pos (af (by omega)), if_pos (dc hk), if_pos (lx (by omega)), ai, dB (by omega)]
   exact hF _ ⟨k + 1, by omega, by omega, rfl⟩
  ·rw [if_neg (by simp; omega)]
   exact ⟨_, rfl, by rw [show k = bl.length by omega]⟩
 obtain ⟨r, e1, e2⟩ := key
 rw [e1, e2]
theorem uY {K : Nat} {i1 i2 i3 i4 : Int} {sf : List Int} {bl : List (List Int)} {ts : List Tsk} (hG : GoodM (i1, i2, i3, i4, sf, bl, ts)) {a : Nat} (ha : a < ts.length) (h14 : ∀ i, i < (dP ts a).length → opAt (dP ts a) i ≠ 14) {W : WM} (hl : W.ret.length = ts.length) (hm : W.mem.length = 8) (hz : W.ret.getD a [] = z8) (i : Int) (inp : List Int) : (mg K ts i inp W).2.2.mem.length = 8 ∧ (mg K ts i inp W).2.2.ret.getD a [] = z8 := by
 unfold mg
 split
 ·rename_i h
  have ht := hG.task i.toNat (show i.toNat < ts.length by omega)
  refine ⟨(Mo ht K _ _ _).trans hm, ?_⟩
  show (W.ret.set i.toNat _).getD a [] = z8
  by_cases e : i.toNat = a
  ·subst e
   rw [iw (by omega), show (fy K (dP ts i.toNat) (W.ret.getD i.toNat []) inp W.mem).s.ret = _ from Mp ht K _ _ _ h14]
   exact hz
  ·rw [mf e]
   exact hz
 ·exact ⟨hm, hz⟩
theorem Px (i1 i2 i3 i4 : Int) (sf : List Int) (bl : List (List Int)) {ts : List Tsk} {k : Nat} (hk : k < ts.length) (hc : (dP ts k).length ≤ 4019) (inp : List Int) (l : List (Int × List Int)) (fam : List iE) :
  ∃ r, xl 30000 (l, 0, fam, i1, i2, i3, i4, sf, bl, ts, (k : Int), inp) = some r ∧ ((∃ X, r = .inl ((true, ()), X)) ∨ (r = .inr ((l, ()), ((fam, ()), (i1, i2, i3, i4, sf, bl, ts, ()), ((k : Int), inp, ()), ())) ∧ ∀ i, i < (dP ts k).length → opAt (dP ts k) i ≠ 14)) := by
 show ∃ r, it _ 30000 _ = some r ∧ _
 refine ly (fun f x => ∃ j : Nat, j ≤ (dP ts k).length ∧ (dP ts k).length < f + j ∧ (∀ i, i < j → opAt (dP ts k) i ≠ 14) ∧ x = (l, (j : Int), fam, i1, i2, i3, i4, sf, bl, ts, (k : Int), inp)) _ (fun x ⟨j, h1, h2, _⟩ => by omega) ?_ 30000 _ ⟨0, by omega, by omega, fun i hi => by omega, rfl⟩
 rintro f x F hF ⟨j, h1, h2, h3, rfl⟩
 show ∃ r, yy 30000 F l (j : Int) fam i1 i2 i3 i4 sf bl ts (k : Int) inp = some r ∧ _
 unfold yy
 rw [if_pos (dc hk), ai]
 rcases am j (dP ts k).length with hj | hj
 ·rw [if_pos (show decide ((j : Int) < (((ts.getD k (0, 0, 0, 0, [], [], [])).2.2.2.2.2.2.length : Nat) : Int)) = true from af (show (j : Int) < ((dP ts k).length : Int) by omega)), if_pos (dc hk), if_pos (show (decide (0 ≤ (j : Int)) && decide ((j : Int) < (((ts.getD k (0, 0, 0, 0, [], [], [])).2.2.2.2.2.2.length : Nat) : Int))) = true from dc (k := (dP ts k).length) hj), ai]
  by_cases h14 : opAt (dP ts k) j = 14
  ·rw [if_pos (show ((ts.getD k (0, 0, 0, 0, [], [], [])).2.2.2.2.2.2.getD j ((0 : Int), ((0 : Int), (0 : Int)))).1 == 14 from ah.2 h14), Fm]
   exact ⟨_, rfl, .inl ⟨_, rfl⟩⟩
  ·rw [if_neg (show ¬ (((ts.getD k (0, 0, 0, 0, [], [], [])).2.2.2.2.2.2.getD j ((0 : Int), ((0 : Int), (0 : Int)))).1 == 14) = true from fun h => h14 (ah.1 h)), dB (by omega)]
   refine hF _ ⟨j + 1, by omega, by omega, fun i hi => ?_, rfl⟩
   by_cases e : i = j
   ·subst e; exact h14
   ·exact h3 i (by omega)
 ·rw [if_neg (show ¬ decide ((j : Int) < (((ts.getD k (0, 0, 0, 0, [], [], [])).2.2.2.2.2.2.length : Nat) : Int)) = true from fun h => by have : (j : Int) < ((dP ts k).length : Int) := aT h; omega)]
  exact ⟨_, rfl, .inr ⟨rfl, fun i hi => h3 i (by omega)⟩⟩
theorem Py {K : Nat} (hK : 5000 ≤ K ∧ K < 20000) {i1 i2 i3 i4 : Int} {sf : List Int} {bl : List (List Int)} {ts : List Tsk} (hG : GoodM (i1, i2, i3, i4, sf, bl, ts)) {a : Nat} (ha : a < ts.length) (h14 : ∀ i, i < (dP ts a).length → opAt (dP ts a) i ≠ 14) (l : List (Int × List Int)) (x : List (Int × Int)) (e : Int) (inp : List Int) {fam : List iE} {p : Nat} {W : WM} (hr : Rep fam p ts W.ret) (ho : W.out.length = sf.length) (hm : W.mem.length = 8) (hz : W.ret.getD a [] = z8) :
  ∃ r, xm 30000 (l, x, e, 0, fam, (a : Int), inp, i1, i2, i3, i4, sf, bl, ts, gq p ts.length, W.mem, W.out) = some r ∧ ∃ (fam' : List iE) (W' : WM), Rep fam' p ts W'.ret ∧ W'.out.length = sf.length ∧ W'.mem.length = 8 ∧ W'.ret.getD a [] = z8 ∧ r = (x, e, fam', (a : Int), inp, i1, i2, i3, i4, sf, bl, ts, gq p ts.length, W'.mem, W'.out) := by
 show ∃ r, it _ 30000 _ = some r ∧ _
 refine ly (fun f y => ∃ (k : Nat) (fam' : List iE) (W' : WM), k ≤ 15 ∧ 15 < f + k ∧ Rep fam' p ts W'.ret ∧ W'.out.length = sf.length ∧ W'.mem.length = 8 ∧ W'.ret.getD a [] = z8 ∧ y = (l, x, e, (k : Int), fam', (a : Int), inp, i1, i2, i3, i4, sf, bl, ts, gq p ts.length, W'.mem, W'.out)) _ (fun y ⟨k, _, _, h1, h2, _⟩ => by omega) ?_ 30000 _ ⟨0, fam, W, by omega, by omega, hr, ho, hm, hz, rfl⟩
 rintro f y F hF ⟨k, fam', W', h1, h2, h3, h4, h5, h6, rfl⟩
 show ∃ r, yB 30000 F l x e (k : Int) fam' (a : Int) inp i1 i2 i3 i4 sf bl ts (gq p ts.length) W'.mem W'.out = some r ∧ _
 unfold yB
 rcases am k l.length with hk | hk
 ·rw [if_pos (af (by omega))]
  rcases am k 15 with hk2 | hk2
  ·rw [if_pos (af (by omega)), if_pos (dc hk), if_pos (dc hk)]
   obtain ⟨fam2, q1, q2, q3, q4, q5⟩ := DO hK hG h3 h4 (l.getD (k : Int).toNat ((0 : Int), [(0 : Int), (0 : Int), (0 : Int), (0 : Int), (0 : Int), (0 : Int), (0 : Int), (0 : Int), (0 : Int), (0 : Int), (0 : Int), (0 : Int), (0 : Int), (0 : Int), (0 : Int), (0 : Int)])).1 (l.getD (k : Int).toNat ((0 : Int), [(0 : Int), (0 : Int), (0 : Int), (0 : Int), (0 : Int), (0 : Int), (0 : Int), (0 : Int), (0 : Int), (0 : Int), (0 : Int), (0 : Int), (0 : Int), (0 : Int), (0 : Int), (0 : Int)])).2
   rw [q1, ae, dB (by omega)]
   dsimp only
   obtain ⟨m1, m2⟩ := uY (K := K) hG ha h14 h3.len h5 h6 (l.getD (k : Int).toNat ((0 : Int), [(0 : Int), (0 : Int), (0 : Int), (0 : Int), (0 : Int), (0 : Int), (0 : Int), (0 : Int), (0 : Int), (0 : Int), (0 : Int), (0 : Int), (0 : Int), (0 : Int), (0 : Int), (0 : Int)])).1 (l.getD (k : Int).toNat ((0 : Int), [(0 : Int), (0 : Int), (0 : Int), (0 : Int), (0 : Int), (0 : Int), (0 : Int), (0 : Int), (0 : Int), (0 : Int), (0 : Int), (0 : Int), (0 : Int), (0 : Int), (0 : Int), (0 : Int)])).2
   exact hF _ ⟨k + 1, fam2, _, by omega, by omega, q2, q5, m1, m2, rfl⟩
  ·rw [if_neg (by simp; omega)]
   exact ⟨_, rfl, fam', W', h3, h4, h5, h6, rfl⟩
 ·rw [if_neg (by simp; omega)]
  exact ⟨_, rfl, fam', W', h3, h4, h5, h6, rfl⟩
theorem Qd (x : List Int) : Sh.eqT (.arr 8 (.int .i64)) x x = true := Pw x 8
theorem lB (a0 : (Int × (Int × (Int × (Int × ((List Int) × ((List (List Int)) × (List (Int × (Int × (Int × (Int × ((List Int) × ((List Int) × (List (Int × (Int × Int))))))))))))))))) (a1 : (Int × (List Int))) (a2 : (List (Int × (List Int)))) (ok0 : Sh.Ok (.pair (.int .i64) (.pair (.int .i64) (.pair (.int .i64) (.pair (.int .i64) (.pair (.sl (.int .i64)) (.pair (.sl (.sl (.int .i64))) (.sl (.pair (.int .i64) (.pair (.int .i64) (.pair (.int .i64) (.pair (.int .i64) (.pair (.sl (.int .i64)) (.pair (.sl (.int .i64)) (.sl (.pair (.int .i64) (.pair (.int .i64) (.int .i64))))))))))))))))) a0) (ok1 : Sh.Ok (.pair (.int .i64) (.arr 16 (.int .i64))) a1) (ok2 : Sh.Ok (.sl (.pair (.int .i64) (.arr 16 (.int .i64)))) a2) (le2 : a2.length ≤ 140737488351232) (sm0 : Sh.Sm (.pair (.int .i64) (.pair (.int .i64) (.pair (.int .i64) (.pair (.int .i64) (.pair (.sl (.int .i64)) (.pair (.sl (.sl (.int .i64))) (.sl (.pair (.int .i64) (.pair (.int .i64) (.pair (.int .i64) (.pair (.int .i64) (.pair (.sl (.int .i64)) (.pair (.sl (.int .i64)) (.sl (.pair (.int .i64) (.pair (.int .i64) (.int .i64))))))))))))))))) a0) (Lw : Sh.Sm (.pair (.int .i64) (.arr 16 (.int .i64))) a1) : ∃ n, Gb n a0 a1 a2 = some true := by
 refine ⟨30000, ?_⟩
 obtain ⟨i1, i2, i3, i4, sf, bl, ts⟩ := a0
 obtain ⟨a, inp⟩ := a1
 unfold Gb
 dsimp only
 rw [Fm]
 obtain ⟨b, hb1, hb2⟩ := GA sm0
 rw [hb1, ae]
 cases b with
 | false => rfl
 | true =>
  obtain ⟨hL, hW⟩ := hb2 rfl
  rw [if_neg (by decide)]
  by_cases h0 : a < 0
  ·rw [if_pos (af h0)]; rfl
  rw [if_neg (fun h => h0 (aT h))]
  by_cases h1 : a ≥ (ts.length : Int)
  ·rw [if_pos (af h1)]; rfl
  rw [if_neg (fun h => h1 (aT h))]
  obtain ⟨k, rfl⟩ : ∃ k : Nat, a = (k : Int) := ⟨a.toNat, by omega⟩
  have hk : k < ts.length := by omega
  rw [if_pos (dc hk), ai]
  by_cases hbk : (Tsk.blocks (ts.getD k tz)).length = 0
  ·rw [if_neg (show ¬ decide ((((ts.getD k (0, 0, 0, 0, [], [], [])).2.2.2.2.1.length : Nat) : Int) > 0) = true from fun h => by have : (((Tsk.blocks (ts.getD k tz)).length : Nat) : Int) > 0 := aT h; omega)]
   have hc : (dP ts k).length ≤ 4019 := hL.2 _ (by show ts.getD k tz ∈ ts; rw [au, ax hk]; exact bP _)
   obtain ⟨r, e1, e2⟩ := Px i1 i2 i3 i4 sf bl hk hc inp a2 []
   rw [e1, ae]
   rcases e2 with ⟨X, rfl⟩ | ⟨rfl, h14⟩
   ·rfl
   dsimp only [Sum.elim_inr]
   obtain ⟨x, e, c1, c2⟩ := Lb (i1, i2, i3, i4, sf, bl, ts)
   rw [c1, ae]
   dsimp only
   by_cases he : e = 0
   ·obtain ⟨hR, hT⟩ := c2 he
    have hG := Mm hR hT hW
    subst he
    have hs16 : sf.length ≤ 16 := hR.1.2.2.2.2.1
    have hb8 : bl.length ≤ 8 := hR.1.2.2.2.2.2.1
    rw [if_neg (by decide), if_pos (by simp; omega)]
    have eA := yT hG i1 i2 i3 i4 sf bl ts [] qv (List.replicate ((sf.length : Int)).toNat (0 : Int))
    rw [eA, ae]
    dsimp only
    rw [yU i1 i2 i3 i4 sf hb8 ts _ _ _, ae]
    dsimp only
    have Hj := Rep.new [] ts
    have hz0 : (List.replicate ts.length z8).getD k [] = z8 := by rw [au, bD, if_pos hk]; rfl
    obtain ⟨fam1, q1, q2, q3, q4, q5⟩ := DO (K := 6000) ⟨by omega, by omega⟩ hG (W := ⟨List.replicate ts.length z8, oM bl bl.length, List.replicate ((sf.length : Int)).toNat (0 : Int)⟩) Hj (by rw [bU, ai]) (k : Int) inp
    have hm1 := uY (K := 6000) hG hk h14 (W := ⟨List.replicate ts.length z8, oM bl bl.length, List.replicate ((sf.length : Int)).toNat (0 : Int)⟩) bU (xB bl _) hz0 (k : Int) inp
    dsimp only at q1
    rw [q1, ae]
    dsimp only
    obtain ⟨r3, e3, fam2, W2, w1, w2, w3, w4, rfl⟩ := Py (K := 6000) ⟨by omega, by omega⟩ hG hk h14 a2 _ _ inp q2 q5 hm1.1 hm1.2
    rw [e3, ae]
    dsimp only
    obtain ⟨fam3, p1, p2, p3, p4, p5⟩ := DO (K := 6000) ⟨by omega, by omega⟩ hG w1 w2 (k : Int) inp
    have hm2 := uY (K := 6000) hG hk h14 w1.len w3 w4 (k : Int) inp
    rw [p1, ae]
    dsimp only
    have hin : (0 ≤ (k : Int) ∧ (k : Int) < (ts.length : Int)) := by omega
    have hag := (Jd (hG.task k hk) hR 6000 z8 inp (mem := oM bl bl.length) (mem' := W2.mem) ⟨⟨xB bl _, w3⟩, fun b hb => by rw [bg hbk] at hb; cases hb⟩).1
    have ex : ∀ W : WM, W.ret.getD k [] = z8 → (mg 6000 ts (k : Int) inp W).1 = jD (fy 6000 (dP ts k) z8 inp W.mem).s.out (fy 6000 (dP ts k) z8 inp W.mem).s.set ∧ (mg 6000 ts (k : Int) inp W).2.1 = 0 := fun W hz => by
     unfold mg
     rw [if_pos hin, ai, hz]
     exact ⟨rfl, rfl⟩
    obtain ⟨x1, x2⟩ := ex ⟨List.replicate ts.length z8, oM bl bl.length, List.replicate ((sf.length : Int)).toNat (0 : Int)⟩ hz0
    obtain ⟨y1, y2⟩ := ex W2 w4
    rw [x2, y2, if_pos (by decide), if_pos (by decide), x1, y1, hag, K6 30000 (uR _ _) (by decide), ae, ae, K7 30000 (uR _ _) (by decide), ae, if_pos rfl]
    rw [show gj 30000 (k : Int) fam3 i1 i2 i3 i4 sf bl ts (gq _ ts.length) _ _ = _ from Ed p2 30000 (k : Int) i1 i2 i3 i4 sf bl ts _ _, ae]
    dsimp only
    rw [if_pos hin, ai, hm2.2, if_pos (Qd z8)]
    rfl
   ·have hne : (e != 0) = true := aw.2 he
    simp only [hne, if_true]
    rfl
  ·rw [if_pos (show decide ((((ts.getD k (0, 0, 0, 0, [], [], [])).2.2.2.2.1.length : Nat) : Int) > 0) = true from af (show (((Tsk.blocks (ts.getD k tz)).length : Nat) : Int) > 0 by omega))]
   rfl
end Go.Proofs.Dk
