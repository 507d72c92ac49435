/- A part of the proofs: types.effects: what its table holds, as the reader of the code takes it. -/
import Derived.Test.YtofeifhecboinaaMB2
import Derived.Test.YtofeifhecboinaaProg
import Derived.KernelRfl
import Derived.Laws.BitsLemmas
set_option linter.unusedVariables false
set_option linter.unusedSimpArgs false
noncomputable section
namespace Go.Proofs.Dk
open Go Go.RowKit
abbrev C2 := Go.Proofs.Ytofeifhecboinaa.E.GK
abbrev sj := Go.Proofs.Ytofeifhecboinaa.E.gk
def E1 : C2 → DV
 | .al s => .fn (.func 88) [] [.pi [.sc (.string s)]]
 | .dup => .fn (.func 78) [] []
 | .swp => .fn (.func 79) [] []
 | .two => .fn (.func 80) [] []
def iI (p : ByteArray × C2) : DV := .agg [.sc (.string p.1), E1 p.2]
def pt : List (List Int) := [[1, 11, 13, 15, 17], [12, 14, 16, 18], [2], [3], [4], [5], [6], [7], [8, 9], [10], [20]]
def pu : List DV := [iI (⟨#[]⟩, .al ⟨#[105]⟩), iI (⟨#[105]⟩, .al ⟨#[]⟩), iI (⟨#[32]⟩, .al ⟨#[]⟩), iI (⟨#[32]⟩, .dup), iI (⟨#[32, 32]⟩, .swp), iI (⟨#[105, 105]⟩, .two), iI (⟨#[105]⟩, .al ⟨#[105]⟩), iI (⟨#[98]⟩, .al ⟨#[98]⟩), iI (⟨#[98, 98]⟩, .al ⟨#[98]⟩), iI (⟨#[98]⟩, .al ⟨#[105]⟩), iI (⟨#[98]⟩, .al ⟨#[]⟩)]
theorem nb (n : Int) : dy pt pu n = (sj n).map iI := by
 unfold sj Go.Proofs.Ytofeifhecboinaa.E.gk
 simp only [pt, pu, dy, List.any_cons, List.any_nil, aX, ay, ah, apply_ite (Option.map iI), bh, Option.map_none]
theorem zk {n : Int} (h : sj n ≠ none) : (Lit.int .i64 n).wf = true := by
 obtain ⟨j, hj⟩ := Go.Proofs.Ytofeifhecboinaa.E.gk_ins h
 exact (Go.Proofs.Ytofeifhecboinaa.E.ins_idx (BB := 0) hj).2.2.2.2
theorem Cq {w : World} {B b n : Nat} {D : DataW Value} (h : w.ownsMap Try.prog 3 Go.Proofs.Ytofeifhecboinaa.E.RV b n D) (hk : ∀ k : Int, (Lit.int .i64 k).wf = true → ((∃ v, (∀ zd, D.atKey (.int .i64 k) zd = .held v) ∧ Go.Proofs.Ytofeifhecboinaa.E.Good B w k v) ∨ (sj k = none ∧ ∀ zd, D.atKey (.int .i64 k) zd = zd))) :
  ∃ es clock val, w.heap[b]? = some (.map es clock) ∧ TabE pt pu val es.toList ∧ ∀ n d, dy pt pu n = some d → Go.Proofs.Ytofeifhecboinaa.E.Good B w n (val n) := by
 obtain ⟨es, clock, hb, F, _, rfl⟩ := h
 have hu := Try.underlying3
 have key : ∀ e ∈ es.toList, ∃ n, e.key = .int .i64 n ∧ (Lit.int .i64 n).wf = true := by
  intro e he
  obtain ⟨y, hy⟩ := F.reads e he
  have h1 := WideElems.rd_key hy
  revert h1
  generalize e.key = q
  intro h1
  cases q <;> simp [keyOf, hu, mapKey] at h1
  obtain ⟨⟨rfl, h2⟩, _⟩ := h1
  exact ⟨_, rfl, h2⟩
 have one : ∀ e ∈ es.toList, ∀ e' ∈ es.toList, e.key = e'.key → e = e' := by
  have hs := ((MapKept.stamped_iff es clock).1 F.stamped).2.2
  intro e he e' he' hee
  obtain ⟨i, hi, rfl⟩ := cc he
  obtain ⟨j, hj, rfl⟩ := cc he'
  rw [List.pairwise_iff_getElem] at hs
  rcases Nat.lt_trichotomy i j with h | h | h
  ·exact absurd hee (hs i j hi hj h)
  ·subst h; rfl
  ·exact absurd hee.symm (hs j i hj hi h)
 have at_ : ∀ n, (Lit.int .i64 n).wf = true → ((∃ e ∈ es.toList, e.key = .int .i64 n ∧ Go.Proofs.Ytofeifhecboinaa.E.Good B w n e.val) ∨ (sj n = none ∧ ∀ e ∈ es.toList, e.key ≠ .int .i64 n)) := by
  intro n hn
  have hkey : keyOf Try.prog 3 (.int .i64 n) = some (.int .i64 n) := Maps.keyOf_int_mk hu hn
  have hz0 : (kq Try.prog 117).isSome = true := by kernel_rfl
  obtain ⟨its, hits⟩ := Option.isSome_iff_exists.1 hz0
  obtain ⟨it, z, hit, hz1, _⟩ := mM (I := ⟨fun _ => none, fun _ => False⟩) (w := w) hits
  have hz : (zeroValue 117).run Try.prog w = .ok z w := by simp [zeroValue, typeInfo, Sem.run_bind, hit, hz1]
  rcases Maps.fit_look false (Maps.int_keyed hu) Try.underlying118 hz hb F hkey with ⟨_, h2, h3⟩ | ⟨e0, y, h1, h2, _, h4, h5, _⟩
  ·rcases hk n hn with ⟨v, g1, g2⟩ | ⟨g1, g2⟩
   ·have := (h3 (.lit (.bool true))).symm.trans (g1 _)
    cases this
   ·exact .inr ⟨g1, h2⟩
  ·rcases hk n hn with ⟨v, g1, g2⟩ | ⟨g1, g2⟩
   ·refine .inl ⟨e0, h1, h2, ?_⟩
    have h6 := (h5 (.lit (.bool true))).symm.trans (g1 _)
    simp only [Go.Proofs.Ytofeifhecboinaa.E.RV, aa] at h4
    rw [← h4] at h6
    simp only [DataW.held.injEq] at h6
    rw [h6]
    exact g2
   ·have h6 := (h5 (.lit (.bool true))).symm.trans (g2 _)
    simp only [Go.Proofs.Ytofeifhecboinaa.E.RV, aa] at h4
    rw [← h4] at h6
    cases h6
 have hex : ∀ n : Int, ∃ v : Value, ∀ e ∈ es.toList, e.key = .int .i64 n → v = e.val := by
  intro n
  by_cases h : ∃ e ∈ es.toList, e.key = .int .i64 n
  ·obtain ⟨e, he, hen⟩ := h
   exact ⟨e.val, fun e' he' hen' => by rw [one e he e' he' (hen.trans hen'.symm)]⟩
  ·exact ⟨default, fun e he hen => absurd ⟨e, he, hen⟩ h⟩
 obtain ⟨val, hval⟩ := Classical.axiomOfChoice hex
 refine ⟨es, clock, val, hb, ⟨fun e he => ?_, fun e he n hn => ⟨hval n e he hn, ?_⟩, fun n hn => ?_⟩, fun n d hd => ?_⟩
 ·obtain ⟨n, hn, _⟩ := key e he
  exact ⟨n, hn⟩
 ·obtain ⟨n', hn', hw⟩ := key e he
  rw [hn] at hn'
  cases hn'
  rcases at_ n hw with ⟨e', _, _, t, g, f, hg, _⟩ | ⟨_, h2⟩
  ·rw [nb, show sj n = _ from hg]; rfl
  ·exact absurd hn (h2 e he)
 ·have hne : sj n ≠ none := by
   rw [nb] at hn
   intro h0
   rw [h0] at hn
   cases hn
  rcases at_ n (zk hne) with ⟨e, h1, h2, _⟩ | ⟨h1, _⟩
  ·exact ⟨e, h1, h2⟩
  ·exact absurd h1 hne
 ·have hne : sj n ≠ none := by
   rw [nb] at hd
   intro h0
   rw [h0] at hd
   cases hd
  rcases at_ n (zk hne) with ⟨e, h1, h2, h3⟩ | ⟨h1, _⟩
  ·rw [hval n e h1 h2]; exact h3
  ·exact absurd h1 hne
def xM : FS := ⟨⟨[], []⟩, ⟨[.tab pt pu], []⟩, Unit, fun _ => ((), ()), fun _ => (), fun _ => some ()⟩
theorem C3 {I : In} {w : World} {B : Nat} {p : ByteArray × C2} {v f : Value} (hv : v = .agg #[.string p.1, f]) (hg : Go.Proofs.Ytofeifhecboinaa.E.gfn B w f p.2) (hI : ∀ q, B ≤ q → q < w.heap.size → I.R q) : VR I w (iI p) v := by
 obtain ⟨t, g⟩ := p
 subst hv
 refine .agg _ _ (.one _ _ _ _ (.sc _ rfl) rfl ?_)
 have fin : ∀ {d : DV}, VR I w d f → f.oneCell' = true → CR I w [d] [f] := fun hd ho => .one _ _ _ _ hd ho .nil
 cases g with
 | al s =>
  obtain ⟨q, hqB, rfl, hq⟩ := hg
  refine fin (.fn _ _ _ _ _ .nil (.cons _ _ _ _ (.pi _ ⟨q, 0, none⟩ [.string s] rfl (hI q hqB (Array.getElem?_eq_some_iff.1 hq).1) (fun d hd => ?_) (.one _ _ _ _ (.sc _ rfl) rfl .nil) (fun j u hu => ?_)) .nil)) rfl
  ·simp only [aw] at hd
   subst hd
   rfl
  ·cases j with
   | zero =>
    simp only [bg, aa] at hu
    subst hu
    exact (Go.Proofs.Ytofeifhecboinaa.E.blk_cell hq 0).trans rfl
   | succ j => simp at hu
 | dup => subst hg; exact fin (.fn _ _ _ _ _ .nil .nil) rfl
 | swp => subst hg; exact fin (.fn _ _ _ _ _ .nil .nil) rfl
 | two => subst hg; exact fin (.fn _ _ _ _ _ .nil .nil) rfl
theorem HR.more {I I' : In} {w w' : World} {H : Heap} (hH : HR I w H) (hι : I'.ι = I.ι) (hR : ∀ b, I'.R b ↔ I.R b ∨ (w.heap.size ≤ b ∧ b < w'.heap.size)) (hw : ∀ b, b < w.heap.size → w'.heap[b]? = w.heap[b]?) (hsz : w.heap.size ≤ w'.heap.size) : HR I' w' H := by
 have hs : Same I I' w w' := ⟨⟨fun b h => (hR b).2 (.inl h), fun b h => hw b (hH.rlt b h)⟩, fun n b h => by rw [hι]; exact h, fun n sz v h => by rw [hι]; exact h⟩
 refine HR.of (fun n b hb => (hH.br hb).keep hs (fun e g h1 h2 => hw g (hH.lt n e g h1 h2).1)) (fun n h => by rw [hι]; exact hH.dom n h) (fun n e b h1 h2 => ?_) (fun n m e e' b h1 h2 h3 h4 => ?_) (fun b h => ?_)
 ·rw [hι] at h1
  obtain ⟨k1, k2⟩ := hH.lt n e b h1 h2
  refine ⟨by omega, fun h => ?_⟩
  rcases (hR b).1 h with h | h
  ·exact k2 h
  ·omega
 ·rw [hι] at h1 h2
  exact hH.inj n m e e' b h1 h2 h3 h4
 ·rcases (hR b).1 h with h | h
  ·have := hH.rlt b h; omega
  ·exact h.2
theorem xN : gd Try.prog 49 xM := by
 intro α I w H A args ρ k r x m hH hA hx hρ h
 obtain ⟨rfl, rfl⟩ : A = [] ∧ m = ⟨[], []⟩ := by
  unfold Tmpl.pr at hx
  split at hx
  ·rename_i y m1 hy
   have hl := jj hy
   obtain rfl : A = [] := bb hl
   refine ⟨rfl, ?_⟩
   simp only [xM, dz, aa] at hy
   obtain rfl : m1 = ⟨[], []⟩ := (congrArg Prod.snd hy).symm
   exact (am (congrArg (Option.map Prod.snd) hx)).symm
  ·cases hx
 cases hA
 refine Calls.mono (Go.Proofs.Ytofeifhecboinaa.E.effects_calls w) ?_
 rintro e w' ⟨b0, n, D, rfl, hnew, hB, hO, hk⟩
 obtain ⟨es, clock, val, hb, hE, hv⟩ := Cq hO hk
 have hbw : b0 < w'.heap.size := (Array.getElem?_eq_some_iff.1 hb).1
 have hw : ∀ b, b < w.heap.size → w'.heap[b]? = w.heap[b]? := hB.block
 refine ⟨⟨I.ι, fun b => I.R b ∨ (w.heap.size ≤ b ∧ b < w'.heap.size)⟩, _, _, _, h, ⟨fun n b h => h, fun b h => .inl h, fun b h _ => hw b h, fun n e b h1 h2 => .inl ⟨n, e, h1, h2⟩, fun b h => ?_, hB.size, hB.os, hB.tape, hB.output⟩, hH.more rfl (fun b => Iff.rfl) hw hB.size, ?_, fun l hl n sz v _ h => h⟩
 ·rcases h with h | h
  ·exact .inl h
  ·exact .inr (.inr h.1)
 ·refine .tab pt pu val b0 es clock ?_ hb hE fun n d hd => ?_
  ·exact .inr ⟨hnew, hbw⟩
  ·obtain ⟨t, g, f, h1, h2, h3⟩ := hv n d hd
   rw [nb, show sj n = _ from h1] at hd
   simp only [bh, aa] at hd
   subst hd
   exact C3 (f := f) h2 h3 fun q h4 h5 => .inr ⟨h4, h5⟩
end Go.Proofs.Dk
namespace Go.Proofs.Dk
open Go Go.IntKind
set_option maxRecDepth 100000
variable (n : Nat)
section
variable {a b c d a0 a1 a2 a3 a4 a5 a6 a7 a8 a9 b0 b1 b2 b3 b4 : Type}
abbrev u_ (x : a) : a × Unit := (x, ())
abbrev v_ (x : a × b) : a × Unit := (x.1, ())
abbrev k_ (x : a × Unit) : a := x.1
abbrev j_ (x : a × Unit) (y : d) : a × d := (x.1, y)
abbrev q_ (f : a → b → c) (x : a × b) : c := f x.1 x.2
abbrev U_ (f : b → c) (x : a × b) : a × c := (x.1, f x.2)
abbrev J_ (f : b → d → c) (x : a × b) (y : d) : a × c := (x.1, f x.2 y)
abbrev C_ (q : d → b → c) (f : a → d) (x : a × b) : c := q (f x.1) x.2
abbrev dF (f : b → c) (x : a × a0 × b) : a × a0 × c := U_ (U_ f) x
abbrev gI (f : b → d → c) (x : a × a0 × b) (y : d) : a × a0 × c := J_ (J_ f) x y
abbrev ed (q : d → b → c) (f : a → a0 → d) (x : a × a0 × b) : c := C_ (C_ q) f x
abbrev di (f : b → c) (x : a × a0 × a1 × a2 × b) : a × a0 × a1 × a2 × c := dF (dF f) x
abbrev sk (f : b → d → c) (x : a × a0 × a1 × a2 × b) (y : d) : a × a0 × a1 × a2 × c := gI (gI f) x y
abbrev eq (q : d → b → c) (f : a → a0 → a1 → a2 → d) (x : a × a0 × a1 × a2 × b) : c := ed (ed q) f x
abbrev de (f : b → c) (x : a × a0 × a1 × a2 × a3 × a4 × a5 × a6 × b) : a × a0 × a1 × a2 × a3 × a4 × a5 × a6 × c := di (di f) x
abbrev fD (f : b → d → c) (x : a × a0 × a1 × a2 × a3 × a4 × a5 × a6 × b) (y : d) : a × a0 × a1 × a2 × a3 × a4 × a5 × a6 × c := sk (sk f) x y
abbrev jP (q : d → b → c) (f : a → a0 → a1 → a2 → a3 → a4 → a5 → a6 → d) (x : a × a0 × a1 × a2 × a3 × a4 × a5 × a6 × b) : c := eq (eq q) f x
abbrev Gw (f : b → c) (x : a × a0 × a1 × a2 × a3 × a4 × a5 × a6 × a7 × a8 × a9 × b0 × b1 × b2 × b3 × b4 × b) : a × a0 × a1 × a2 × a3 × a4 × a5 × a6 × a7 × a8 × a9 × b0 × b1 × b2 × b3 × b4 × c := de (de f) x
abbrev Gx (f : b → d → c) (x : a × a0 × a1 × a2 × a3 × a4 × a5 × a6 × a7 × a8 × a9 × b0 × b1 × b2 × b3 × b4 × b) (y : d) : a × a0 × a1 × a2 × a3 × a4 × a5 × a6 × a7 × a8 × a9 × b0 × b1 × b2 × b3 × b4 × c := fD (fD f) x y
abbrev gD (q : d → b → c) (f : a → a0 → a1 → a2 → a3 → a4 → a5 → a6 → a7 → a8 → a9 → b0 → b1 → b2 → b3 → b4 → d) (x : a × a0 × a1 × a2 × a3 × a4 × a5 × a6 × a7 × a8 × a9 × b0 × b1 × b2 × b3 × b4 × b) : c := jP (jP q) f x
end
abbrev cL : Sh := (.int .i64)
abbrev kO : Sh := (.pair cL cL)
abbrev gz : Sh := (.pair cL kO)
abbrev sm : Sh := (.arr 16 cL)
abbrev C4 : Sh := (.arr 8 cL)
abbrev eA : Sh := (.sl cL)
abbrev er : Sh := (.sl gz)
abbrev kg : Sh := (.arr 8 C4)
abbrev dP : List IK := [.row 59 gz, .val eA, .val C4, .val .bool, .val cL, .row 3 cL, .val C4, .val sm, .val sm, .val cL, .row 3 cL, .val cL, .val cL, .val cL]
abbrev i1 : List IK := [.val cL, .val cL, .val cL, .obj 2, .val cL, .val cL, .val cL, .val cL, .val cL, .val cL, .val sm]
abbrev nE : List IK := [.val cL, .val cL, .val cL, .obj 1, .val cL, .val cL, .val cL, .val cL, .val cL, .val cL, .val sm]
abbrev kh : List IK := [.val cL, .val cL, .val cL]
abbrev pX : List IK := [.row 9 .str, .row 4 .bool, .row 4 .bool]
abbrev BT : List IK := [.val cL, .val cL, .val cL, .obj 3, .val cL, .val cL, .val cL, .val cL, .val cL, .val cL, .val sm]
abbrev pY : List IK := [.val cL, .val cL]
abbrev f6 : Type := (Int × (Int × Int))
abbrev cS : Type := (List f6)
abbrev sn : Type := (cS × (List Int) × (List Int) × Bool × Int × (List Int) × (List Int) × (List Int) × (List Int) × Int × (List Int) × Int × Int × Int × Unit)
abbrev gJ : Type := (Int × Int × Int × Int × Int × Int × Int × Int × Int × (List Int) × (List Int) × cS × (List Int) × (List Int) × Bool × Int × (List Int) × (List Int) × (List Int) × (List Int) × Int × (List Int) × Int × Int × Int)
abbrev w5 : Type := (Int × Int × Int × Int × Int × Int × Int × Int × Int × (List Int) × Unit)
abbrev w6 : Type := ((List Int) × Int × Int × Int × Int × Int × Int × Int × Int × Int × Int × Int × (List Int) × (List (List Int)) × Int × Int × Bool × cS × (List Int) × (List Int) × Bool × Int × (List Int) × (List Int) × (List Int) × (List Int) × Int × (List Int) × Int × Int × Int)
abbrev nF : Type := ((List ByteArray) × (List Bool) × (List Bool) × Unit)
abbrev nG : Type := (w5 × ((List (List Int)) × Unit) × sn × Unit)
abbrev dQ : Type := (List (Int × Int))
abbrev w7 : Type := (dQ × cS × (List Int) × (List Int) × Bool × Int × (List Int) × (List Int) × (List Int) × (List Int) × Int × (List Int) × Int × Int × Int)
abbrev BU : Type := ((List Int) × Int × Int × Int × Int × Int × Int × Int × Int × Int × Int × Int × Int × (List Int) × (List (List Int)) × cS × (List Int) × (List Int) × Bool × Int × (List Int) × (List Int) × (List Int) × (List Int) × Int × (List Int) × Int × Int × Int)
abbrev sq : Type := (List (Int × f6))
abbrev tg : Type := (Int × cS × (List Int) × (List Int) × Bool × Int × (List Int) × (List Int) × (List Int) × (List Int) × Int × (List Int) × Int × Int × Int)
abbrev xO : Type := ((List Int) × (List Int) × Int × Int × Int × Int × Int × Int × Int × Int × Int × (List Int) × cS × (List Int) × (List Int) × Bool × Int × (List Int) × (List Int) × (List Int) × (List Int) × Int × (List Int) × Int × Int × Int)
abbrev xP : Type := (Int × Int × Int × Int × Int × Int × Int × Int × Int × Int × (List Int) × cS × (List Int) × (List Int) × Bool × Int × (List Int) × (List Int) × (List Int) × (List Int) × Int × (List Int) × Int × Int × Int)
abbrev th : Type := (Int × Int × Int × Unit)
abbrev Ay : Type := ((List Int) × Int × Int × Int × Int × Int × Int × Int × Int × Int × Int × Int × Int × Int × (List Int) × (List (List Int)) × cS × (List Int) × (List Int) × Bool × Int × (List Int) × (List Int) × (List Int) × (List Int) × Int × (List Int) × Int × Int × Int)
abbrev Az : Type := (Int × Int × Int × Int × Int × Int × Int × Int × Int × Int × Int × Int × Int × Int × (List Int) × (List (List Int)) × cS × (List Int) × (List Int) × Bool × Int × (List Int) × (List Int) × (List Int) × (List Int) × Int × (List Int) × Int × Int × Int)
abbrev AA : Type := ((List Int) × Int × Int × Int × Int × Int × Int × Int × Int × Int × Int × Int × (List Int) × (List (List Int)) × cS × (List Int) × (List Int) × Bool × Int × (List Int) × (List Int) × (List Int) × (List Int) × Int × (List Int) × Int × Int × Int)
abbrev AB : Type := ((List Int) × Int × (List Int) × Int × Int × Int × Int × Int × Int × Int × Int × Int × (List Int) × cS × (List Int) × (List Int) × Bool × Int × (List Int) × (List Int) × (List Int) × (List Int) × Int × (List Int) × Int × Int × Int)
abbrev kP : Type := (Bool × Unit)
abbrev j8 : Type := ((kP × Unit) ⊕ (Unit × Unit))
abbrev lU : Type := (th × Unit)
abbrev ti : Type := (((List Int) × (List Int) × sq × Int × cS × Int × Int × Unit) × lU)
abbrev xQ : Type := (((List Int) × Int × Int × Unit) × (w5 × ((List (List Int)) × Unit) × (Int × Int × Bool × Unit) × sn × Unit))
abbrev AC : Type := (dQ × (List Int) × Int × cS × (List Int) × (List Int) × Bool × Int × (List Int) × (List Int) × (List Int) × (List Int) × Int × (List Int) × Int × Int × Int)
abbrev xR : Type := ((((List Int) × (List Int) × Int × Unit) × Unit) ⊕ (((List Int) × (List Int) × sq × Unit) × Unit))
abbrev C5 : Type := ((Int × (Int × Bool)) × Int × Int × Int × Int × Int × Int × Int × Int × Int × Int × (List Int) × (List (List Int)) × cS × (List Int) × (List Int) × Bool × Int × (List Int) × (List Int) × (List Int) × (List Int) × Int × (List Int) × Int × Int × Int)
abbrev lV : Type := ((List Int) × Unit)
abbrev xS : Type := ((List Int) × (List Int) × sq × Int × cS × Int × Int × Int × Int × Int)
abbrev xT : Type := ((((List ByteArray) × Int × Unit) × (nF × Unit)) ⊕ (Unit × (nF × Unit)))
abbrev C6 : Type := ((List Int) × Int × Int × Int × Int × Int × Int × Int × Int × Int × (List Int) × cS × (List Int) × (List Int) × Bool × Int × (List Int) × (List Int) × (List Int) × (List Int) × Int × (List Int) × Int × Int × Int)
abbrev C7 : Type := (Bool × Int × Int × Int × Int × Int × Int × Int × Int × Int × (List Int) × cS × (List Int) × (List Int) × Bool × Int × (List Int) × (List Int) × (List Int) × (List Int) × Int × (List Int) × Int × Int × Int)
abbrev C8 : Type := (dQ × Int × Int × Int × Int × Int × Int × Int × Int × Int × (List Int) × cS × (List Int) × (List Int) × Bool × Int × (List Int) × (List Int) × (List Int) × (List Int) × Int × (List Int) × Int × Int × Int)
abbrev xU : Type := (((List Int) × Int × Int × cS × Int × Int × Unit) × lU)
abbrev jk : Type := (Int × Unit)
abbrev xV : Type := ((jk × Unit) ⊕ ((cS × (List Int) × Int × Unit) × Unit))
abbrev xW : Type := ((kP × nG) ⊕ ((Int × Int × Int × Int × Unit) × nG))
abbrev vD : Type := ((Int × ByteArray × Unit) × (nF × th × Unit))
abbrev C9 : Type := ((Int × Int) × Int × cS × (List Int) × (List Int) × Bool × Int × (List Int) × (List Int) × (List Int) × (List Int) × Int × (List Int) × Int × Int × Int × (List (List Int)))
abbrev j9 : Type := (w5 × sn × Unit)
abbrev xX : Type := ((List Int) × (List Int) × sq × cS × Int × Int × Unit)
abbrev AD : Type := (Int × ByteArray × (List ByteArray) × (List Bool) × (List Bool) × Int × Int × Int)
abbrev tj : Type := (Unit × (w5 × lV × sn × Unit))
abbrev xY : Type := ((((List Int) × Int × Unit) × Unit) ⊕ (lV × Unit))
abbrev AE : Type := ((List Int) × cS × Int × Int × (List ByteArray) × (List Bool) × (List Bool))
abbrev Da : Type := (Bool × cS × (List Int) × (List Int) × Bool × Int × (List Int) × (List Int) × (List Int) × (List Int) × Int × (List Int) × Int × Int × Int)
abbrev AF : Type := (cS × (List Int) × (List Int) × (List Int) × Bool × cS × Int × Int)
abbrev xZ : Type := ((List Int) × Int × cS × Int × Int × Unit)
abbrev AG : Type := (Int × ByteArray × (List ByteArray) × (List Bool) × (List Bool))
abbrev x0 : Type := ((kP × Unit) ⊕ ((cS × Unit) × Unit))
abbrev jl : Type := (sn × Unit)
abbrev oG : Type := ((List Int) × Int)
abbrev Db : Type := (cS × (List Int) × (List Int) × (List Int) × Bool × Bool × cS × Int × Int × Int × Int × Int)
abbrev AH : Type := ((List Int) × (List Int) × sq × cS × Int × Int)
abbrev x8 : Type := ((jk × Unit) ⊕ (Unit × Unit))
abbrev x9 : Type := ((kP × nG) ⊕ (Unit × nG))
abbrev AI : Type := (cS × (List Int) × Int × cS × Int × Int)
abbrev AJ : Type := (cS × (List Int) × (List Int) × Int × Int)
theorem Ej : jB Try.prog 48 (1, [[25], [24], [23], [22], [21], [20], [19], [18], [17], [16], [15], [14], [13], [12], [11], [10], [9], [8], [7], [6], [5], [4], [3], [2], [1]], [76, 75, 74, 73, 72, 71, 70, 69, 68, 67, 66, 65, 64, 63, 62, 61, 60, 59, 58, 57, 56, 55, 54, 53, 52]) := fun hH hA hl hp => CY (xJ Try.prog) 14 (fun p => by kernel_rfl) hH hA hl hp
theorem Ek : jB Try.prog 89 (0, [[12], [11], [10], [9], [8], [7], [6], [3], [2], [1]], [99, 98, 97, 96, 95, 94, 93, 92, 91, 90]) := fun hH hA hl hp => CZ (xJ Try.prog) 14 (by kernel_rfl) hH hA hl hp
def c0 (n : Nat) : Cx := (((EZ Try.prog).addSpec 49 xM).addTab 48 (1, [[25], [24], [23], [22], [21], [20], [19], [18], [17], [16], [15], [14], [13], [12], [11], [10], [9], [8], [7], [6], [5], [4], [3], [2], [1]], [76, 75, 74, 73, 72, 71, 70, 69, 68, 67, 66, 65, 64, 63, 62, 61, 60, 59, 58, 57, 56, 55, 54, 53, 52])).addTab 89 (0, [[12], [11], [10], [9], [8], [7], [6], [3], [2], [1]], [99, 98, 97, 96, 95, 94, 93, 92, 91, 90])
theorem g0 : Good (c0 n) := (((xJ _).addSpec xN).addTab (fun hH hA hl hp => Ej hH hA hl hp)).addTab (fun hH hA hl hp => Ek hH hA hl hp)
def sr (n : Nat)  : Option (List (ByteArray × f6)) := some [(ByteArray.empty, (0, (0, 0))), ((ByteArray.mk #[80, 85, 83, 72]), (1, ((-9223372036854775808), 9223372036854775807))), ((ByteArray.mk #[68, 82, 79, 80]), (0, (0, 0))), ((ByteArray.mk #[68, 85, 80]), (0, (0, 0))), ((ByteArray.mk #[83, 87, 65, 80]), (0, (0, 0))), ((ByteArray.mk #[84, 87, 79]), (1, (1, 12))), ((ByteArray.mk #[78, 69, 71]), (0, (0, 0))), ((ByteArray.mk #[78, 79, 84]), (0, (0, 0))), ((ByteArray.mk #[66, 79, 84, 72]), (0, (0, 0))), ((ByteArray.mk #[69, 73, 84, 72, 69, 82]), (0, (0, 0))), ((ByteArray.mk #[67, 65, 83, 84]), (0, (0, 0))), ((ByteArray.mk #[76, 79, 65, 68, 76]), (1, (0, 7))), ((ByteArray.mk #[83, 84, 79, 82, 69, 76]), (1, (0, 7))), ((ByteArray.mk #[76, 79, 65, 68, 82]), (1, (0, 7))), ((ByteArray.mk #[83, 84, 79, 82, 69, 82]), (1, (0, 7))), ((ByteArray.mk #[73, 78]), (1, (0, 15))), ((ByteArray.mk #[79, 85, 84]), (1, (0, 15))), ((ByteArray.mk #[71, 69, 84]), (2, (0, 7))), ((ByteArray.mk #[80, 85, 84]), (2, (0, 7))), ((ByteArray.mk #[74, 85, 77, 80]), (1, (0, 199))), ((ByteArray.mk #[66, 82, 65, 78, 67, 72]), (1, (0, 199))), ((ByteArray.mk #[76, 79, 79, 80]), (1, (1, 1000))), ((ByteArray.mk #[78, 69, 88, 84]), (0, (0, 0))), ((ByteArray.mk #[76, 79, 67, 75]), (1, (0, 7))), ((ByteArray.mk #[85, 78, 76, 79, 67, 75]), (1, (0, 7))), ((ByteArray.mk #[69, 78, 68]), (0, (0, 0)))]
def pZ : FS := ⟨⟨[], []⟩, ⟨[.val (.arr 26 (.pair .str gz))], []⟩, (List (ByteArray × f6)), fun y => ((y, ()), ()), fun o => o.1.1, fun x => sr n ⟩
theorem ya : dq (c0 n) 14 81 0 (pZ n) := fun x => by kernel_rfl
def c1 : Cx := (Cx.bare (c0 n)).addSpec 81 (pZ n)
theorem g1 : Good (c1 n) := Good.fn (g0 n) 14 0 (ya n) (fun _ => rfl) rfl
def pw (a0 : Int) : Option (ByteArray × f6) := if (decide (a0 < 1)) then (some (ByteArray.empty, ((-1), (0, 0)))) else (if (decide (a0 > 25)) then (some (ByteArray.empty, ((-1), (0, 0)))) else ((sr n ).bind fun y1 => (if (decide (0 ≤ a0) && decide (a0 < 26)) then (some ((y1.getD a0.toNat (ByteArray.empty, (0, (0, 0)))).1, ((y1.getD a0.toNat (ByteArray.empty, (0, (0, 0)))).2.1, ((y1.getD a0.toNat (ByteArray.empty, (0, (0, 0)))).2.2.1, (y1.getD a0.toNat (ByteArray.empty, (0, (0, 0)))).2.2.2)))) else none)))
def vE : FS := ⟨⟨[.val cL], []⟩, ⟨[.val (.pair .str gz)], []⟩, (ByteArray × f6), fun y => ((y, ()), ()), fun o => o.1.1, fun x => pw n x.1.1⟩
theorem Cr : dq (c1 n) 14 50 0 (vE n) := fun x => by kernel_rfl
def c2 : Cx := (Cx.bare (c1 n)).addSpec 50 (vE n)
theorem g2 : Good (c2 n) := Good.fn (g1 n) 14 0 (Cr n) (fun _ => rfl) rfl
def cM (a0 : f6) : Option Bool := (pw n a0.1).bind fun y1 => (if (y1.2.1 == 0) then (if (a0.2.1 == 0) then (some (a0.2.2 == 0)) else (some false)) else (if (y1.2.1 == 1) then (if (decide (a0.2.1 ≥ y1.2.2.1)) then (if (decide (a0.2.1 ≤ y1.2.2.2)) then (some (a0.2.2 == 0)) else (some false)) else (some false)) else (if (y1.2.1 == 2) then (if (decide (a0.2.1 ≥ y1.2.2.1)) then (if (decide (a0.2.1 ≤ y1.2.2.2)) then (if (decide (a0.2.2 ≥ y1.2.2.1)) then (some (decide (a0.2.2 ≤ y1.2.2.2))) else (some false)) else (some false)) else (some false)) else (some false))))
def p5 : FS := ⟨⟨[.val gz], []⟩, ⟨[.val .bool], []⟩, Bool, fun y => ((y, ()), ()), fun o => o.1.1, fun x => cM n x.1.1⟩
theorem yb : dq (c2 n) 14 47 0 (p5 n) := fun x => by kernel_rfl
def c3 : Cx := (Cx.bare (c2 n)).addSpec 47 (p5 n)
theorem g3 : Good (c3 n) := Good.fn (g2 n) 14 0 (yb n) (fun _ => rfl) rfl
def fe (F : (cS × cS × Int × Int) → Option (x0)) (v2 v3 : cS) (v4 v5 : Int) : Option (x0) := if (decide (v5 < v4)) then (if (decide (0 ≤ v5) && decide (v5 < (v3.length : Int))) then ((cM n ((v3.getD v5.toNat (0, (0, 0))).1, ((v3.getD v5.toNat (0, (0, 0))).2.1, (v3.getD v5.toNat (0, (0, 0))).2.2))).bind fun y6 => (if (!y6) then (some (.inl ((false, ()), ()))) else (F (v2, v3, v4, (wrap .i64 (v5 + 1)))))) else none) else (some (.inr ((v2, ()), ())))
def iJ : (cS × cS × Int × Int) → Option (x0) := it (fun F => (ed q_) (fe n F)) n
def lw : Loop := ⟨⟨dn 23 0 [(0, .val er), (5, .val er), (6, .val cL), (7, .val cL)], []⟩, [(.ret, ⟨dn 23 0 [(2, .val .bool)], []⟩), (.exit 0, ⟨dn 23 0 [(0, .val er)], []⟩)], (cS × cS × Int × Int), fun x => ((dF (U_ u_)) x, ()), fun (x : ((cS × cS × Int × Int × Unit) × Unit)) => (dF (U_ k_)) x.1, x0, fun y => y, fun y => y, iJ n⟩
def iK (a0 : cS) : Option Bool := (iJ n (a0, a0, (a0.length : Int), 0)).bind fun y1 => ((Sum.elim (fun (z2 : (kP × Unit)) => (some z2.1.1)) (fun (z3 : ((cS × Unit) × Unit)) => (if (decide ((z3.1.1.length : Int) > 0)) then (some (decide ((z3.1.1.length : Int) ≤ 200))) else (some false)))) y1)
def nH : FS := ⟨⟨[.val er], []⟩, ⟨[.val .bool], []⟩, Bool, fun y => ((y, ()), ()), fun o => o.1.1, fun x => iK n x.1.1⟩
theorem ss : ∀ F x, dW (c3 n) 14 41 0 2 (lw n) F x = (ed q_) (fe n F) x := fun F x => by kernel_rfl
def iL : Cx := Cx.addLoop (c3 n) 41 2 (lw n)
theorem su : Good (iL n) := Good.loop (g3 n) 14 0 (by kernel_rfl) (ss n) n (fun _ => rfl) (fun _ => rfl) (fun _ => rfl) rfl
theorem vF : dq (iL n) 14 41 0 (nH n) := fun x => by kernel_rfl
def c4 : Cx := (Cx.bare (iL n)).addSpec 41 (nH n)
theorem g4 : Good (c4 n) := Good.fn (su n) 14 0 (vF n) (fun _ => rfl) rfl
def fE (n : Nat) (a0 : f6) : Option (f6 × Bool) := if (a0.1 == 21) then (some ((22, (0, 0)), true)) else (if (a0.1 == 23) then (some ((24, (a0.2.1, 0)), true)) else (some ((0, (0, 0)), false)))
def lx : FS := ⟨⟨[.val gz], []⟩, ⟨[.val gz, .val .bool], []⟩, (f6 × Bool), fun y => ((U_ u_) y, ()), fun o => (o.1.1, o.1.2.1), fun x => fE n x.1.1⟩
theorem tm : dq (c4 n) 14 42 0 (lx n) := fun x => by kernel_rfl
def c5 : Cx := (Cx.bare (c4 n)).addSpec 42 (lx n)
theorem g5 : Good (c5 n) := Good.fn (g4 n) 14 0 (tm n) (fun _ => rfl) rfl
def sv (n : Nat) (v12 v13 : (List Int)) (v14 : sq) (v15 : Int) (v16 : cS) (v17 v18 v19 v20 v21 : Int) : Option (xS) := if (decide ((v14.length : Int) > 0)) then (if (decide (0 ≤ (wrap .i64 ((v14.length : Int) - 1))) && decide ((wrap .i64 ((v14.length : Int) - 1)) < (v14.length : Int))) then (if (decide (0 ≤ v15) && decide (v15 < (v13.length : Int))) then (some (v12, (v13.set v15.toNat (v14.getD ((wrap .i64 ((v14.length : Int) - 1))).toNat (0, (0, (0, 0)))).1), v14, v15, v16, v17, v18, v19, v20, v21)) else none) else none) else (some (v12, v13, v14, v15, v16, v17, v18, v19, v20, v21))
def qy : Loop := ⟨⟨dn 106 0 [(5, .row 3 cL), (6, .row 3 cL), (7, .row 99 (.pair cL gz)), (8, .val cL), (9, .obj 0), (21, .val er), (22, .val cL), (23, .val cL)], [kh]⟩, [(.norm, ⟨dn 106 0 [(5, .row 3 cL), (6, .row 3 cL), (7, .row 99 (.pair cL gz)), (8, .val cL), (9, .obj 0), (21, .val er), (22, .val cL), (23, .val cL)], [kh]⟩)], xS, fun x => ((di (dF v_)) x, (dF u_) x.2.2.2.2.2.2.2, ()), fun (x : ti) => (sk (gI j_)) x.1 ((dF k_) x.2.1), xS, fun y => ((di (dF v_)) y, (dF u_) y.2.2.2.2.2.2.2, ()), fun (o : ti) => (sk (gI j_)) o.1 ((dF k_) o.2.1), (jP q_) (sv n)⟩
def l6 (n : Nat) (v14 v15 : (List Int)) (v16 : sq) (v17 : Int) (v18 : cS) (v19 v20 v21 v22 v23 : Int) : Option (((xX × lU) ⊕ ti)) := if (v21 != 22) then (if (v21 != 24) then (some (.inl ((v14, v15, v16, v18, v19, v20, ()), ((v21, v22, v23, ()), ())))) else (some (.inr ((v14, v15, v16, v17, v18, v19, v20, ()), ((v21, v22, v23, ()), ()))))) else (some (.inr ((v14, v15, v16, v17, v18, v19, v20, ()), ((v21, v22, v23, ()), ()))))
def qz : Loop := ⟨⟨dn 106 0 [(5, .row 3 cL), (6, .row 3 cL), (7, .row 99 (.pair cL gz)), (8, .val cL), (9, .obj 0), (21, .val er), (22, .val cL), (23, .val cL)], [kh]⟩, [(.exit 1, ⟨dn 106 0 [(5, .row 3 cL), (6, .row 3 cL), (7, .row 99 (.pair cL gz)), (21, .val er), (22, .val cL), (23, .val cL)], [kh]⟩), (.norm, ⟨dn 106 0 [(5, .row 3 cL), (6, .row 3 cL), (7, .row 99 (.pair cL gz)), (8, .val cL), (9, .obj 0), (21, .val er), (22, .val cL), (23, .val cL)], [kh]⟩)], xS, fun x => ((di (dF v_)) x, (dF u_) x.2.2.2.2.2.2.2, ()), fun (x : ti) => (sk (gI j_)) x.1 ((dF k_) x.2.1), ((xX × lU) ⊕ ti), fun y => y, fun y => y, (jP q_) (l6 n)⟩
def jQ (F : AH → Option (xR)) (v6 v7 : (List Int)) (v8 : sq) (v9 : cS) (v10 v11 : Int) : Option (xR) := if (decide (v11 < v10)) then (if (decide (0 ≤ v11) && decide (v11 < (v9.length : Int))) then (if (decide (0 ≤ v11) && decide (v11 < (v6.length : Int))) then (if (decide (0 ≤ v11) && decide (v11 < (v7.length : Int))) then ((sv n (v6.set v11.toNat (-1)) (v7.set v11.toNat (-1)) v8 v11 v9 v10 v11 ((v9.getD v11.toNat (0, (0, 0))).1) ((v9.getD v11.toNat (0, (0, 0))).2.1) ((v9.getD v11.toNat (0, (0, 0))).2.2)).bind fun y12 => ((fE n (y12.2.2.2.2.2.2.2.1, (y12.2.2.2.2.2.2.2.2.1, y12.2.2.2.2.2.2.2.2.2))).bind fun y13 => (if y13.2 then (if (decide ((y12.2.2.1.length + 1) * 32 ≤ 140737488355328) && decide (1 ≤ 32)) then (F (y12.1, y12.2.1, (y12.2.2.1 ++ [(y12.2.2.2.1, (y13.1.1, (y13.1.2.1, y13.1.2.2)))]), y12.2.2.2.2.1, y12.2.2.2.2.2.1, (wrap .i64 (y12.2.2.2.2.2.2.1 + 1)))) else none) else ((l6 n y12.1 y12.2.1 y12.2.2.1 y12.2.2.2.1 y12.2.2.2.2.1 y12.2.2.2.2.2.1 y12.2.2.2.2.2.2.1 y12.2.2.2.2.2.2.2.1 y12.2.2.2.2.2.2.2.2.1 y12.2.2.2.2.2.2.2.2.2).bind fun y14 => ((Sum.elim (fun (z15 : (xX × lU)) => (F (z15.1.1, z15.1.2.1, z15.1.2.2.1, z15.1.2.2.2.1, z15.1.2.2.2.2.1, (wrap .i64 (z15.1.2.2.2.2.2.1 + 1))))) (fun (z16 : ti) => (if ((z16.1.2.2.1.length : Int) == 0) then (some (.inl (([], [], 7, ()), ()))) else (if (decide (0 ≤ (wrap .i64 ((z16.1.2.2.1.length : Int) - 1))) && decide ((wrap .i64 ((z16.1.2.2.1.length : Int) - 1)) < (z16.1.2.2.1.length : Int))) then (if (!(((z16.1.2.2.1.getD ((wrap .i64 ((z16.1.2.2.1.length : Int) - 1))).toNat (0, (0, (0, 0)))).2.1 == z16.2.1.1) && (((z16.1.2.2.1.getD ((wrap .i64 ((z16.1.2.2.1.length : Int) - 1))).toNat (0, (0, (0, 0)))).2.2.1 == z16.2.1.2.1) && ((z16.1.2.2.1.getD ((wrap .i64 ((z16.1.2.2.1.length : Int) - 1))).toNat (0, (0, (0, 0)))).2.2.2 == z16.2.1.2.2.1)))) then (some (.inl (([], [], 7, ()), ()))) else (if (decide (0 ≤ z16.1.2.2.2.1) && decide (z16.1.2.2.2.1 < (z16.1.2.1.length : Int))) then (if (decide (0 ≤ z16.1.2.2.2.1) && decide (z16.1.2.2.2.1 < (z16.1.2.1.length : Int))) then (if (decide (0 ≤ z16.1.2.2.2.1) && decide (z16.1.2.2.2.1 < (z16.1.1.length : Int))) then (if (decide (0 ≤ (z16.1.2.1.getD z16.1.2.2.2.1.toNat 0)) && decide ((z16.1.2.1.getD z16.1.2.2.2.1.toNat 0) < (((z16.1.1.set z16.1.2.2.2.1.toNat (z16.1.2.1.getD z16.1.2.2.2.1.toNat 0)).length : Nat) : Int))) then (if (decide (0 ≤ (wrap .i64 ((z16.1.2.2.1.length : Int) - 1))) && decide ((wrap .i64 ((z16.1.2.2.1.length : Int) - 1)) ≤ (z16.1.2.2.1.length : Int))) then (F (((z16.1.1.set z16.1.2.2.2.1.toNat (z16.1.2.1.getD z16.1.2.2.2.1.toNat 0)).set ((z16.1.2.1.getD z16.1.2.2.2.1.toNat 0)).toNat z16.1.2.2.2.1), z16.1.2.1, (z16.1.2.2.1.take (((wrap .i64 ((z16.1.2.2.1.length : Int) - 1))).toNat - 0)), z16.1.2.2.2.2.1, z16.1.2.2.2.2.2.1, (wrap .i64 (z16.1.2.2.2.2.2.2.1 + 1)))) else none) else none) else none) else none) else none)) else none)))) y14))))) else none) else none) else none) else (some (.inr ((v6, v7, v8, ()), ())))
def qA : AH → Option (xR) := it (fun F => (eq q_) (jQ n F)) n
def vG : Loop := ⟨⟨dn 106 0 [(5, .row 3 cL), (6, .row 3 cL), (7, .row 99 (.pair cL gz)), (21, .val er), (22, .val cL), (23, .val cL)], []⟩, [(.ret, ⟨dn 106 0 [(2, .row 3 cL), (3, .row 3 cL), (4, .val cL)], []⟩), (.exit 0, ⟨dn 106 0 [(5, .row 3 cL), (6, .row 3 cL), (7, .row 99 (.pair cL gz))], []⟩)], AH, fun x => ((di (U_ u_)) x, ()), fun (x : (xX × Unit)) => (di (U_ k_)) x.1, xR, fun y => y, fun y => y, qA n⟩
def nc (a0 : cS) : Option ((List Int) × (List Int) × Int) := (iK n a0).bind fun y1 => (if (!y1) then (some ([], [], 1)) else (if (decide (0 ≤ (a0.length : Int)) && ((a0.length : Int) == (a0.length : Int)) && decide ((a0.length : Int) * (8 : Int) ≤ 140737488355328) && decide (1 ≤ 8)) then (if (decide (0 ≤ (a0.length : Int)) && ((a0.length : Int) == (a0.length : Int)) && decide ((a0.length : Int) * (8 : Int) ≤ 140737488355328) && decide (1 ≤ 8)) then ((qA n ((List.replicate ((a0.length : Int)).toNat (0 : Int)), (List.replicate ((a0.length : Int)).toNat (0 : Int)), [], a0, (a0.length : Int), 0)).bind fun y2 => ((Sum.elim (fun (z3 : (((List Int) × (List Int) × Int × Unit) × Unit)) => (some (z3.1.1, z3.1.2.1, z3.1.2.2.1))) (fun (z4 : (((List Int) × (List Int) × sq × Unit) × Unit)) => (if (decide ((z4.1.2.2.1.length : Int) > 0)) then (some ([], [], 7)) else (some (z4.1.1, z4.1.2.1, 0))))) y2)) else none) else none))
def zl : FS := ⟨⟨[.val er], []⟩, ⟨[.val eA, .val eA, .val cL], []⟩, ((List Int) × (List Int) × Int), fun y => ((dF u_) y, ()), fun o => (o.1.1, o.1.2.1, o.1.2.2.1), fun x => nc n x.1.1⟩
theorem AK : ∀ x, gf (c5 n) 14 36 0 1000011 (qy n) x = (qy n).fn x := fun x => by kernel_rfl
def qB : Cx := Cx.addLoop (c5 n) 36 1000011 (qy n)
theorem AL : Good (qB n) := fp (g5 n) 14 0 (by kernel_rfl) (AK n) (fun _ => rfl) (fun _ => rfl) rfl
theorem AM : ∀ x, gf (qB n) 14 36 0 1000015 (qz n) x = (qz n).fn x := fun x => by kernel_rfl
def qC : Cx := Cx.addLoop (qB n) 36 1000015 (qz n)
theorem AN : Good (qC n) := fp (AL n) 14 0 (by kernel_rfl) (AM n) (fun _ => rfl) (fun _ => rfl) rfl
theorem AO : ∀ F x, dW (qC n) 14 36 0 6 (vG n) F x = (eq q_) (jQ n F) x := fun F x => by kernel_rfl
def qD : Cx := Cx.addLoop (qC n) 36 6 (vG n)
theorem AP : Good (qD n) := Good.loop (AN n) 14 0 (by kernel_rfl) (AO n) n (fun _ => rfl) (fun _ => rfl) (fun _ => rfl) rfl
theorem El : dq (qD n) 14 36 0 (zl n) := fun x => by kernel_rfl
def c6 : Cx := (Cx.bare (qD n)).addSpec 36 (zl n)
theorem g6 : Good (c6 n) := Good.fn (AP n) 14 0 (El n) (fun _ => rfl) rfl
def l7 (n : Nat) (F : AI → Option (xV)) (v5 : cS) (v6 : (List Int)) (v7 : Int) (v8 : cS) (v9 v10 : Int) : Option (xV) := if (decide (v10 < v9)) then (if (decide (0 ≤ v10) && decide (v10 < (v8.length : Int))) then (if (((v8.getD v10.toNat (0, (0, 0))).1 == 25) != (v10 == v7)) then (some (.inl ((7, ()), ()))) else (F (v5, v6, v7, v8, v9, (wrap .i64 (v10 + 1))))) else none) else (some (.inr ((v5, v6, v7, ()), ())))
def qE : AI → Option (xV) := it (fun F => (eq q_) (l7 n F)) n
def vH : Loop := ⟨⟨dn 74 0 [(0, .val er), (4, .val eA), (6, .val cL), (24, .val er), (25, .val cL), (26, .val cL)], []⟩, [(.ret, ⟨dn 74 0 [(2, .val cL)], []⟩), (.exit 0, ⟨dn 74 0 [(0, .val er), (4, .val eA), (6, .val cL)], []⟩)], AI, fun x => ((di (U_ u_)) x, ()), fun (x : ((cS × (List Int) × Int × cS × Int × Int × Unit) × Unit)) => (di (U_ k_)) x.1, xV, fun y => y, fun y => y, qE n⟩
def kQ (n : Nat) (v10 : (List Int)) (v11 v12 : Int) (v13 : cS) (v14 v15 v16 v17 v18 : Int) : Option (((xZ × lU) ⊕ xU)) := if (v16 != 19) then (if (v16 != 20) then (some (.inl ((v10, v11, v13, v14, v15, ()), ((v16, v17, v18, ()), ())))) else (some (.inr ((v10, v11, v12, v13, v14, v15, ()), ((v16, v17, v18, ()), ()))))) else (some (.inr ((v10, v11, v12, v13, v14, v15, ()), ((v16, v17, v18, ()), ()))))
def qF : Loop := ⟨⟨dn 74 0 [(4, .val eA), (6, .val cL), (9, .val cL), (10, .obj 0), (39, .val er), (40, .val cL), (41, .val cL)], [kh]⟩, [(.exit 3, ⟨dn 74 0 [(4, .val eA), (6, .val cL), (39, .val er), (40, .val cL), (41, .val cL)], [kh]⟩), (.norm, ⟨dn 74 0 [(4, .val eA), (6, .val cL), (9, .val cL), (10, .obj 0), (39, .val er), (40, .val cL), (41, .val cL)], [kh]⟩)], ((List Int) × Int × Int × cS × Int × Int × Int × Int × Int), fun x => ((di (U_ v_)) x, (dF u_) x.2.2.2.2.2.2, ()), fun (x : xU) => (sk (J_ j_)) x.1 ((dF k_) x.2.1), ((xZ × lU) ⊕ xU), fun y => y, fun y => y, (eq (ed (C_ q_))) (kQ n)⟩
def l8 (F : ((List Int) × Int × cS × Int × Int) → Option (x8)) (v5 : (List Int)) (v6 : Int) (v7 : cS) (v8 v9 : Int) : Option (x8) := if (decide (v9 < v8)) then (if (decide (0 ≤ v9) && decide (v9 < (v7.length : Int))) then ((kQ n v5 v6 v9 v7 v8 v9 ((v7.getD v9.toNat (0, (0, 0))).1) ((v7.getD v9.toNat (0, (0, 0))).2.1) ((v7.getD v9.toNat (0, (0, 0))).2.2)).bind fun y10 => ((Sum.elim (fun (z11 : (xZ × lU)) => (F (z11.1.1, z11.1.2.1, z11.1.2.2.1, z11.1.2.2.2.1, (wrap .i64 (z11.1.2.2.2.2.1 + 1))))) (fun (z12 : xU) => (if (decide ((wrap .i64 ((wrap .i64 (z12.1.2.2.1 + 1)) + z12.2.1.2.1)) > z12.1.2.1)) then (some (.inl ((8, ()), ()))) else (if (decide (0 ≤ (wrap .i64 ((wrap .i64 (z12.1.2.2.1 + 1)) + z12.2.1.2.1))) && decide ((wrap .i64 ((wrap .i64 (z12.1.2.2.1 + 1)) + z12.2.1.2.1)) < (z12.1.1.length : Int))) then (if (decide (0 ≤ z12.1.2.2.1) && decide (z12.1.2.2.1 < (z12.1.1.length : Int))) then (if ((z12.1.1.getD ((wrap .i64 ((wrap .i64 (z12.1.2.2.1 + 1)) + z12.2.1.2.1))).toNat 0) != (z12.1.1.getD z12.1.2.2.1.toNat 0)) then (some (.inl ((8, ()), ()))) else (F (z12.1.1, z12.1.2.1, z12.1.2.2.2.1, z12.1.2.2.2.2.1, (wrap .i64 (z12.1.2.2.2.2.2.1 + 1))))) else none) else none)))) y10)) else none) else (some (.inr ((), ())))
def qG : ((List Int) × Int × cS × Int × Int) → Option (x8) := it (fun F => (ed (C_ q_)) (l8 n F)) n
def vI : Loop := ⟨⟨dn 74 0 [(4, .val eA), (6, .val cL), (39, .val er), (40, .val cL), (41, .val cL)], []⟩, [(.ret, ⟨dn 74 0 [(2, .val cL)], []⟩), (.exit 2, ⟨dn 74 0 [], []⟩)], ((List Int) × Int × cS × Int × Int), fun x => ((di u_) x, ()), fun (x : (xZ × Unit)) => (di k_) x.1, x8, fun y => y, fun y => y, qG n⟩
def sx (a0 : cS) : Option Int := (nc n a0).bind fun y1 => (if (y1.2.2 != 0) then (some y1.2.2) else ((qE n (a0, y1.2.1, (wrap .i64 ((a0.length : Int) - 1)), a0, (a0.length : Int), 0)).bind fun y2 => ((Sum.elim (fun (z3 : (jk × Unit)) => (some z3.1.1)) (fun (z4 : ((cS × (List Int) × Int × Unit) × Unit)) => ((qG n (z4.1.2.1, z4.1.2.2.1, z4.1.1, (z4.1.1.length : Int), 0)).bind fun y13 => ((Sum.elim (fun (z14 : (jk × Unit)) => (some z14.1.1)) (fun (z15 : (Unit × Unit)) => (some 0))) y13)))) y2)))
def zm : FS := ⟨⟨[.val er], []⟩, ⟨[.val cL], []⟩, Int, fun y => ((y, ()), ()), fun o => o.1.1, fun x => sx n x.1.1⟩
theorem AQ : ∀ F x, dW (c6 n) 14 30 0 6 (vH n) F x = (eq q_) (l7 n F) x := fun F x => by kernel_rfl
def qH : Cx := Cx.addLoop (c6 n) 30 6 (vH n)
theorem AR : Good (qH n) := Good.loop (g6 n) 14 0 (by kernel_rfl) (AQ n) n (fun _ => rfl) (fun _ => rfl) (fun _ => rfl) rfl
theorem AS : ∀ x, gf (qH n) 14 30 0 1000015 (qF n) x = (qF n).fn x := fun x => by kernel_rfl
def qI : Cx := Cx.addLoop (qH n) 30 1000015 (qF n)
theorem AT : Good (qI n) := fp (AR n) 14 0 (by kernel_rfl) (AS n) (fun _ => rfl) (fun _ => rfl) rfl
theorem AU : ∀ F x, dW (qI n) 14 30 0 12 (vI n) F x = (ed (C_ q_)) (l8 n F) x := fun F x => by kernel_rfl
def qJ : Cx := Cx.addLoop (qI n) 30 12 (vI n)
theorem AV : Good (qJ n) := Good.loop (AT n) 14 0 (by kernel_rfl) (AU n) n (fun _ => rfl) (fun _ => rfl) (fun _ => rfl) rfl
theorem Em : dq (qJ n) 14 30 0 (zm n) := fun x => by kernel_rfl
def c7 : Cx := (Cx.bare (qJ n)).addSpec 30 (zm n)
theorem g7 : Good (c7 n) := Good.fn (AV n) 14 0 (Em n) (fun _ => rfl) rfl
def et (n : Nat) (F : AJ → Option ((List Int))) (v5 : cS) (v6 v7 : (List Int)) (v8 v9 : Int) : Option ((List Int)) := if (decide (v9 < v8)) then (if (decide (0 ≤ v9) && decide (v9 < (v6.length : Int))) then (if ((v6.getD v9.toNat 0) == (-1)) then (F (v5, v6, v7, v8, (wrap .i64 (v9 + 1)))) else (if (decide (0 ≤ (v6.getD v9.toNat 0)) && decide ((v6.getD v9.toNat 0) < (v7.length : Int))) then (if (decide (0 ≤ v9) && decide (v9 < (v7.length : Int))) then (if (decide (0 ≤ (v6.getD v9.toNat 0)) && decide ((v6.getD v9.toNat 0) < (v5.length : Int))) then (if ((v5.getD ((v6.getD v9.toNat 0)).toNat (0, (0, 0))).1 == 23) then (if (decide (0 ≤ v9) && decide (v9 < (((v7.set v9.toNat (v7.getD ((v6.getD v9.toNat 0)).toNat 0)).length : Nat) : Int))) then (if (decide (0 ≤ (v6.getD v9.toNat 0)) && decide ((v6.getD v9.toNat 0) < (v5.length : Int))) then (if decide ((v5.getD ((v6.getD v9.toNat 0)).toNat (0, (0, 0))).2.1 < 0) then none else (if (decide (0 ≤ v9) && decide (v9 < (((v7.set v9.toNat (v7.getD ((v6.getD v9.toNat 0)).toNat 0)).length : Nat) : Int))) then (F (v5, v6, ((v7.set v9.toNat (v7.getD ((v6.getD v9.toNat 0)).toNat 0)).set v9.toNat (bits .or .i64 ((v7.set v9.toNat (v7.getD ((v6.getD v9.toNat 0)).toNat 0)).getD v9.toNat 0) (wrap .i64 (1 * 2 ^ (min ((v5.getD ((v6.getD v9.toNat 0)).toNat (0, (0, 0))).2.1).toNat 64))))), v8, (wrap .i64 (v9 + 1)))) else none)) else none) else none) else (F (v5, v6, (v7.set v9.toNat (v7.getD ((v6.getD v9.toNat 0)).toNat 0)), v8, (wrap .i64 (v9 + 1))))) else none) else none) else none)) else none) else (some v7)
def jm : AJ → Option ((List Int)) := it (fun F => (ed (C_ q_)) (et n F)) n
def l9 : Loop := ⟨⟨dn 60 0 [(0, .val er), (5, .val eA), (7, .row 3 cL), (23, .val cL), (24, .val cL)], []⟩, [(.exit 0, ⟨dn 60 0 [(7, .row 3 cL)], []⟩)], AJ, fun x => ((di u_) x, ()), fun (x : ((cS × (List Int) × (List Int) × Int × Int × Unit) × Unit)) => (di k_) x.1, (List Int), fun y => ((y, ()), ()), fun (o : (lV × Unit)) => o.1.1, jm n⟩
def jC (a0 : cS) : Option oG := (nc n a0).bind fun y1 => (if (y1.2.2 != 0) then (some ([], y1.2.2)) else (if (decide (0 ≤ (a0.length : Int)) && ((a0.length : Int) == (a0.length : Int)) && decide ((a0.length : Int) * (8 : Int) ≤ 140737488355328) && decide (1 ≤ 8)) then ((jm n (a0, y1.2.1, (List.replicate ((a0.length : Int)).toNat (0 : Int)), (a0.length : Int), 0)).bind fun y2 => (some (y2, 0))) else none))
def oH : FS := ⟨⟨[.val er], []⟩, ⟨[.val eA, .val cL], []⟩, oG, fun y => ((U_ u_) y, ()), fun o => (o.1.1, o.1.2.1), fun x => jC n x.1.1⟩
theorem tn : ∀ F x, dW (c7 n) 14 31 0 6 (l9 n) F x = (ed (C_ q_)) (et n F) x := fun F x => by kernel_rfl
def jn : Cx := Cx.addLoop (c7 n) 31 6 (l9 n)
theorem tp : Good (jn n) := Good.loop (g7 n) 14 0 (by kernel_rfl) (tn n) n (fun _ => rfl) (fun _ => rfl) (fun _ => rfl) rfl
theorem wG : dq (jn n) 14 31 0 (oH n) := fun x => by kernel_rfl
def c8 : Cx := (Cx.bare (jn n)).addSpec 31 (oH n)
theorem g8 : Good (c8 n) := Good.fn (tp n) 14 0 (wG n) (fun _ => rfl) rfl
def jD (a0 : cS) : Option oG := (nc n a0).bind fun y1 => (some (y1.2.1, y1.2.2))
def oI : FS := ⟨⟨[.val er], []⟩, ⟨[.val eA, .val cL], []⟩, oG, fun y => ((U_ u_) y, ()), fun o => (o.1.1, o.1.2.1), fun x => jD n x.1.1⟩
theorem wH : dq (c8 n) 14 32 0 (oI n) := fun x => by kernel_rfl
def c9 : Cx := (Cx.bare (c8 n)).addSpec 32 (oI n)
theorem g9 : Good (c9 n) := Good.fn (g8 n) 14 0 (wH n) (fun _ => rfl) rfl
def eV (n : Nat) (F : (cS × (List Int) × Int) → Option (j8)) (v1 : cS) (v2 : (List Int)) (v3 : Int) : Option (j8) := if (v3 != (-1)) then (if (decide (0 ≤ v3) && decide (v3 < (v1.length : Int))) then (if ((v1.getD v3.toNat (0, (0, 0))).1 == 21) then (some (.inl ((true, ()), ()))) else (if (decide (0 ≤ v3) && decide (v3 < (v2.length : Int))) then (F (v1, v2, (v2.getD v3.toNat 0))) else none)) else none) else (some (.inr ((), ())))
def hP : (cS × (List Int) × Int) → Option (j8) := it (fun F => (C_ q_) (eV n F)) n
def kR : Loop := ⟨⟨dn 24 0 [(0, .val er), (1, .val eA), (7, .val cL)], []⟩, [(.ret, ⟨dn 24 0 [(6, .val .bool)], []⟩), (.exit 0, ⟨dn 24 0 [], []⟩)], (cS × (List Int) × Int), fun x => ((dF u_) x, ()), fun (x : ((cS × (List Int) × Int × Unit) × Unit)) => (x.1.1, x.1.2.1, x.1.2.2.1), j8, fun y => y, fun y => y, hP n⟩
def gT (a0 : cS) (a1 : (List Int)) (a2 : Int) : Option Bool := if (decide (0 ≤ a2) && decide (a2 < (a1.length : Int))) then ((hP n (a0, a1, (a1.getD a2.toNat 0))).bind fun y4 => ((Sum.elim (fun (z5 : (kP × Unit)) => (some z5.1.1)) (fun (z6 : (Unit × Unit)) => (some false))) y4)) else none
def ma : FS := ⟨⟨[.val er, .val eA, .val cL], []⟩, ⟨[.val .bool], []⟩, Bool, fun y => ((y, ()), ()), fun o => o.1.1, fun x => gT n x.1.1 x.1.2.1 x.1.2.2.1⟩
theorem qK : ∀ F x, dW (c9 n) 14 33 0 2 (kR n) F x = (C_ q_) (eV n F) x := fun F x => by kernel_rfl
def hU : Cx := Cx.addLoop (c9 n) 33 2 (kR n)
theorem qL : Good (hU n) := Good.loop (g9 n) 14 0 (by kernel_rfl) (qK n) n (fun _ => rfl) (fun _ => rfl) (fun _ => rfl) rfl
theorem un : dq (hU n) 14 33 0 (ma n) := fun x => by kernel_rfl
def Dc : Cx := (Cx.bare (hU n)).addSpec 33 (ma n)
theorem FC : Good (Dc n) := Good.fn (qL n) 14 0 (un n) (fun _ => rfl) rfl
def gU (v17 : cS) (v18 v19 v20 : (List Int)) (v21 : Bool) (v22 : Int) (v23 : Bool) (v24 : cS) (v25 v26 v27 v28 v29 : Int) : Option (Db) := if (v27 == 23) then (if (!v21) then (if (decide (0 ≤ v22) && decide (v22 < (v18.length : Int))) then (if decide (v28 < 0) then none else (if (((v18.getD v22.toNat 0).fdiv (2 ^ (min v28.toNat 64))) == 0) then ((gT n v17 v19 v22).bind fun y30 => (if (decide ((v20.length + 1) * 8 ≤ 140737488355328) && decide (1 ≤ 8)) then (some (v17, v18, v19, (v20 ++ [v28]), v21, (!y30), v24, v25, v26, v27, v28, v29)) else none)) else (if (decide ((v20.length + 1) * 8 ≤ 140737488355328) && decide (1 ≤ 8)) then (some (v17, v18, v19, (v20 ++ [v28]), v21, false, v24, v25, v26, v27, v28, v29)) else none))) else none) else (if (decide ((v20.length + 1) * 8 ≤ 140737488355328) && decide (1 ≤ 8)) then (some (v17, v18, v19, (v20 ++ [v28]), v21, false, v24, v25, v26, v27, v28, v29)) else none)) else (if (v27 == 24) then (some (v17, v18, v19, v20, true, v23, v24, v25, v26, v27, v28, v29)) else (if (v27 == 17) then (if (decide (0 ≤ v22) && decide (v22 < (v18.length : Int))) then (if decide (v28 < 0) then none else (some (v17, v18, v19, v20, v21, ((bits .and .i64 ((v18.getD v22.toNat 0).fdiv (2 ^ (min v28.toNat 64))) 1) == 1), v24, v25, v26, v27, v28, v29))) else none) else (if (v27 == 18) then (if (decide (0 ≤ v22) && decide (v22 < (v18.length : Int))) then (if decide (v28 < 0) then none else (some (v17, v18, v19, v20, v21, ((bits .and .i64 ((v18.getD v22.toNat 0).fdiv (2 ^ (min v28.toNat 64))) 1) == 1), v24, v25, v26, v27, v28, v29))) else none) else (some (v17, v18, v19, v20, v21, v23, v24, v25, v26, v27, v28, v29)))))
def iM : Loop := ⟨⟨dn 82 0 [(0, .val er), (5, .val eA), (7, .val eA), (9, .row 3 cL), (10, .val .bool), (11, .val cL), (12, .obj 0), (13, .val .bool), (29, .val er), (30, .val cL), (31, .val cL)], [kh]⟩, [(.norm, ⟨dn 82 0 [(0, .val er), (5, .val eA), (7, .val eA), (9, .row 3 cL), (10, .val .bool), (13, .val .bool), (29, .val er), (30, .val cL), (31, .val cL)], [kh]⟩)], (cS × (List Int) × (List Int) × (List Int) × Bool × Int × Bool × cS × Int × Int × Int × Int × Int), fun x => ((de (U_ v_)) x, (dF u_) x.2.2.2.2.2.2.2.2.2.2, ()), fun (x : ((cS × (List Int) × (List Int) × (List Int) × Bool × Int × Bool × cS × Int × Int × Unit) × lU)) => (fD (J_ j_)) x.1 ((dF k_) x.2.1), Db, fun y => ((de v_) y, (dF u_) y.2.2.2.2.2.2.2.2.2, ()), fun (o : ((cS × (List Int) × (List Int) × (List Int) × Bool × Bool × cS × Int × Int × Unit) × lU)) => (fD j_) o.1 ((dF k_) o.2.1), (jP (ed (C_ q_))) (gU n)⟩
def fg (F : AF → Option (xY)) (v9 : cS) (v10 v11 v12 : (List Int)) (v13 : Bool) (v14 : cS) (v15 v16 : Int) : Option (xY) := if (decide (v16 < v15)) then (if (decide (0 ≤ v16) && decide (v16 < (v14.length : Int))) then ((gU n v9 v10 v11 v12 v13 v16 true v14 v15 v16 ((v14.getD v16.toNat (0, (0, 0))).1) ((v14.getD v16.toNat (0, (0, 0))).2.1) ((v14.getD v16.toNat (0, (0, 0))).2.2)).bind fun y17 => (if (!y17.2.2.2.2.2.1) then (some (.inl (([], 11, ()), ()))) else (F (y17.1, y17.2.1, y17.2.2.1, y17.2.2.2.1, y17.2.2.2.2.1, y17.2.2.2.2.2.2.1, y17.2.2.2.2.2.2.2.1, (wrap .i64 (y17.2.2.2.2.2.2.2.2.1 + 1)))))) else none) else (some (.inr ((v12, ()), ())))
def iN : AF → Option (xY) := it (fun F => (eq (ed q_)) (fg n F)) n
def ly : Loop := ⟨⟨dn 82 0 [(0, .val er), (5, .val eA), (7, .val eA), (9, .row 3 cL), (10, .val .bool), (29, .val er), (30, .val cL), (31, .val cL)], []⟩, [(.ret, ⟨dn 82 0 [(2, .row 3 cL), (3, .val cL)], []⟩), (.exit 0, ⟨dn 82 0 [(9, .row 3 cL)], []⟩)], AF, fun x => ((di (dF (U_ u_))) x, ()), fun (x : ((cS × (List Int) × (List Int) × (List Int) × Bool × cS × Int × Int × Unit) × Unit)) => (di (dF (U_ k_))) x.1, xY, fun y => y, fun y => y, iN n⟩
def iP (a0 : cS) : Option oG := (sx n a0).bind fun y1 => (if (y1 != 0) then (some ([], y1)) else ((jC n a0).bind fun y2 => ((jD n a0).bind fun y3 => ((iN n (a0, y2.1, y3.1, [], false, a0, (a0.length : Int), 0)).bind fun y4 => ((Sum.elim (fun (z5 : (((List Int) × Int × Unit) × Unit)) => (some (z5.1.1, z5.1.2.1))) (fun (z6 : (lV × Unit)) => (some (z6.1.1, 0)))) y4)))))
def nI : FS := ⟨⟨[.val er], []⟩, ⟨[.val eA, .val cL], []⟩, oG, fun y => ((U_ u_) y, ()), fun o => (o.1.1, o.1.2.1), fun x => iP n x.1.1⟩
theorem sy : ∀ x, gf (Dc n) 14 18 0 1000021 (iM n) x = (iM n).fn x := fun x => by kernel_rfl
def iQ : Cx := Cx.addLoop (Dc n) 18 1000021 (iM n)
theorem sA : Good (iQ n) := fp (FC n) 14 0 (by kernel_rfl) (sy n) (fun _ => rfl) (fun _ => rfl) rfl
theorem sB : ∀ F x, dW (iQ n) 14 18 0 9 (ly n) F x = (eq (ed q_)) (fg n F) x := fun F x => by kernel_rfl
def iR : Cx := Cx.addLoop (iQ n) 18 9 (ly n)
theorem sC : Good (iR n) := Good.loop (sA n) 14 0 (by kernel_rfl) (sB n) n (fun _ => rfl) (fun _ => rfl) (fun _ => rfl) rfl
theorem vJ : dq (iR n) 14 18 0 (nI n) := fun x => by kernel_rfl
def Dd : Cx := (Cx.bare (iR n)).addSpec 18 (nI n)
theorem FD : Good (Dd n) := Good.fn (sC n) 14 0 (vJ n) (fun _ => rfl) rfl
def gg (a0 : cS) : Option oG := (nc n a0).bind fun y1 => (some (y1.1, y1.2.2))
def nJ : FS := ⟨⟨[.val er], []⟩, ⟨[.val eA, .val cL], []⟩, oG, fun y => ((U_ u_) y, ()), fun o => (o.1.1, o.1.2.1), fun x => gg n x.1.1⟩
theorem vK : dq (Dd n) 14 20 0 (nJ n) := fun x => by kernel_rfl
def De : Cx := (Cx.bare (Dd n)).addSpec 20 (nJ n)
theorem FE : Good (De n) := Good.fn (FD n) 14 0 (vK n) (fun _ => rfl) rfl
def fW (a0 : f6) : Option ByteArray := (cM n (a0.1, (a0.2.1, a0.2.2))).bind fun y1 => (if (!y1) then (some (ByteArray.mk #[])) else (if ((a0.1 == 1) || ((a0.1 == 11) || ((a0.1 == 13) || ((a0.1 == 15) || ((a0.1 == 17) || false))))) then (some (ByteArray.mk #[])) else (if ((a0.1 == 12) || ((a0.1 == 14) || ((a0.1 == 16) || ((a0.1 == 18) || false)))) then (some (ByteArray.mk #[105])) else (if ((a0.1 == 2) || false) then (some (ByteArray.mk #[32])) else (if ((a0.1 == 3) || false) then (some (ByteArray.mk #[32])) else (if ((a0.1 == 4) || false) then (some (ByteArray.mk #[32, 32])) else (if ((a0.1 == 5) || false) then (some (ByteArray.mk #[105, 105])) else (if ((a0.1 == 6) || false) then (some (ByteArray.mk #[105])) else (if ((a0.1 == 7) || false) then (some (ByteArray.mk #[98])) else (if ((a0.1 == 8) || ((a0.1 == 9) || false)) then (some (ByteArray.mk #[98, 98])) else (if ((a0.1 == 10) || false) then (some (ByteArray.mk #[98])) else (if ((a0.1 == 20) || false) then (some (ByteArray.mk #[98])) else (some ByteArray.empty)))))))))))))
def mb : FS := ⟨⟨[.val gz], []⟩, ⟨[.val .str], []⟩, ByteArray, fun y => ((y, ()), ()), fun o => o.1.1, fun x => fW n x.1.1⟩
theorem uo : dq (De n) 14 44 0 (mb n) := fun x => by kernel_rfl
def Df : Cx := (Cx.bare (De n)).addSpec 44 (mb n)
theorem FF : Good (Df n) := Good.fn (FE n) 14 0 (uo n) (fun _ => rfl) rfl
def mc (n : Nat) (F : (ByteArray × ByteArray × Int × Int) → Option (j8)) (v1 v2 : ByteArray) (v3 v4 : Int) : Option (j8) := if (decide (v4 < v3)) then (if (decide (0 ≤ v4) && decide (v4 < (v2.size : Int))) then (if (decide (0 ≤ 0) && decide (0 < (((ByteArray.mk #[32]).size : Nat) : Int))) then (if ((bt v2 v4) != (bt (ByteArray.mk #[32]) 0)) then (if (decide (0 ≤ v4) && decide (v4 < (v2.size : Int))) then (if (decide (0 ≤ v4) && decide (v4 < (v1.size : Int))) then (if ((bt v2 v4) != (bt v1 v4)) then (some (.inl ((false, ()), ()))) else (F (v1, v2, v3, (wrap .i64 (v4 + 1))))) else none) else none) else (F (v1, v2, v3, (wrap .i64 (v4 + 1))))) else none) else none) else (some (.inr ((), ())))
def qM : (ByteArray × ByteArray × Int × Int) → Option (j8) := it (fun F => (ed q_) (mc n F)) n
def vL : Loop := ⟨⟨dn 31 0 [(0, .val .str), (1, .val .str), (12, .val cL), (13, .val cL)], []⟩, [(.ret, ⟨dn 31 0 [(4, .val .bool)], []⟩), (.exit 0, ⟨dn 31 0 [], []⟩)], (ByteArray × ByteArray × Int × Int), fun x => ((dF (U_ u_)) x, ()), fun (x : ((ByteArray × ByteArray × Int × Int × Unit) × Unit)) => (dF (U_ k_)) x.1, j8, fun y => y, fun y => y, qM n⟩
def dE (a0 : ByteArray) (a1 : ByteArray) : Option Bool := if ((a0.size : Int) != (a1.size : Int)) then (some false) else ((qM n (a0, a1, (a1.size : Int), 0)).bind fun y5 => ((Sum.elim (fun (z6 : (kP × Unit)) => (some z6.1.1)) (fun (z7 : (Unit × Unit)) => (some true))) y5))
def zn : FS := ⟨⟨[.val .str, .val .str], []⟩, ⟨[.val .bool], []⟩, Bool, fun y => ((y, ()), ()), fun o => o.1.1, fun x => dE n x.1.1 x.1.2.1⟩
theorem AW : ∀ F x, dW (Df n) 14 45 0 4 (vL n) F x = (ed q_) (mc n F) x := fun F x => by kernel_rfl
def qN : Cx := Cx.addLoop (Df n) 45 4 (vL n)
theorem AX : Good (qN n) := Good.loop (FF n) 14 0 (by kernel_rfl) (AW n) n (fun _ => rfl) (fun _ => rfl) (fun _ => rfl) rfl
theorem En : dq (qN n) 14 45 0 (zn n) := fun x => by kernel_rfl
def Dg : Cx := (Cx.bare (qN n)).addSpec 45 (zn n)
theorem FG : Good (Dg n) := Good.fn (AX n) 14 0 (En n) (fun _ => rfl) rfl
def eB (n : Nat) (a0 : f6) (a1 : ByteArray) : Option ByteArray := if decide (a1.size + a1.size ≤ 140737488351232) then (some (a1 ++ a1)) else none
def jR : FS := ⟨⟨[.val gz, .val .str], []⟩, ⟨[.val .str], []⟩, ByteArray, fun y => ((y, ()), ()), fun o => o.1.1, fun x => eB n x.1.1 x.1.2.1⟩
theorem pE : dq (Dg n) 14 78 0 (jR n) := fun x => by kernel_rfl
def Dh : Cx := (Cx.bare (Dg n)).addSpec 78 (jR n)
theorem FH : Good (Dh n) := Good.fn (FG n) 14 0 (pE n) (fun _ => rfl) rfl
def eF (n : Nat) (a0 : f6) (a1 : ByteArray) : Option ByteArray := if (decide (0 ≤ 1) && decide (1 ≤ (a1.size : Int))) then (if (decide (0 ≤ 1) && decide (1 ≤ (a1.size : Int))) then (if decide ((a1.extract 1 a1.size).size + (a1.extract 0 1).size ≤ 140737488351232) then (some ((a1.extract 1 a1.size) ++ (a1.extract 0 1))) else none) else none) else none
def jS : FS := ⟨⟨[.val gz, .val .str], []⟩, ⟨[.val .str], []⟩, ByteArray, fun y => ((y, ()), ()), fun o => o.1.1, fun x => eF n x.1.1 x.1.2.1⟩
theorem pF : dq (Dh n) 14 79 0 (jS n) := fun x => by kernel_rfl
def Di : Cx := (Cx.bare (Dh n)).addSpec 79 (jS n)
theorem FI : Good (Di n) := Good.fn (FH n) 14 0 (pF n) (fun _ => rfl) rfl
def gK (n : Nat) (a0 : f6) (a1 : ByteArray) : Option ByteArray := if (a0.2.1 == 11) then (some (ByteArray.mk #[98])) else (if (a0.2.1 == 12) then (some (ByteArray.mk #[98])) else (some (ByteArray.mk #[105])))
def oJ : FS := ⟨⟨[.val gz, .val .str], []⟩, ⟨[.val .str], []⟩, ByteArray, fun y => ((y, ()), ()), fun o => o.1.1, fun x => gK n x.1.1 x.1.2.1⟩
theorem wI : dq (Di n) 14 80 0 (oJ n) := fun x => by kernel_rfl
def Dj : Cx := (Cx.bare (Di n)).addSpec 80 (oJ n)
theorem FJ : Good (Dj n) := Good.fn (FI n) 14 0 (wI n) (fun _ => rfl) rfl
def gV (a0 : f6) (a1 : ByteArray) : Option ByteArray := if ((a0.1 == 1) || ((a0.1 == 11) || ((a0.1 == 13) || ((a0.1 == 15) || ((a0.1 == 17) || false))))) then ((cM n (a0.1, (a0.2.1, a0.2.2))).bind fun y1 => (if (!y1) then (some (ByteArray.mk #[])) else ((dE n a1 (ByteArray.mk #[])).bind fun y2 => (if (!y2) then (some (ByteArray.mk #[])) else (some (ByteArray.mk #[105])))))) else (if ((a0.1 == 12) || ((a0.1 == 14) || ((a0.1 == 16) || ((a0.1 == 18) || false)))) then ((cM n (a0.1, (a0.2.1, a0.2.2))).bind fun y3 => (if (!y3) then (some (ByteArray.mk #[])) else ((dE n a1 (ByteArray.mk #[105])).bind fun y4 => (if (!y4) then (some (ByteArray.mk #[])) else (some (ByteArray.mk #[])))))) else (if ((a0.1 == 2) || false) then ((cM n (a0.1, (a0.2.1, a0.2.2))).bind fun y5 => (if (!y5) then (some (ByteArray.mk #[])) else ((dE n a1 (ByteArray.mk #[32])).bind fun y6 => (if (!y6) then (some (ByteArray.mk #[])) else (some (ByteArray.mk #[])))))) else (if ((a0.1 == 3) || false) then ((cM n (a0.1, (a0.2.1, a0.2.2))).bind fun y7 => (if (!y7) then (some (ByteArray.mk #[])) else ((dE n a1 (ByteArray.mk #[32])).bind fun y8 => (if (!y8) then (some (ByteArray.mk #[])) else ((eB n (a0.1, (a0.2.1, a0.2.2)) a1).bind fun y9 => (some y9)))))) else (if ((a0.1 == 4) || false) then ((cM n (a0.1, (a0.2.1, a0.2.2))).bind fun y10 => (if (!y10) then (some (ByteArray.mk #[])) else ((dE n a1 (ByteArray.mk #[32, 32])).bind fun y11 => (if (!y11) then (some (ByteArray.mk #[])) else ((eF n (a0.1, (a0.2.1, a0.2.2)) a1).bind fun y12 => (some y12)))))) else (if ((a0.1 == 5) || false) then ((cM n (a0.1, (a0.2.1, a0.2.2))).bind fun y13 => (if (!y13) then (some (ByteArray.mk #[])) else ((dE n a1 (ByteArray.mk #[105, 105])).bind fun y14 => (if (!y14) then (some (ByteArray.mk #[])) else ((gK n (a0.1, (a0.2.1, a0.2.2)) a1).bind fun y15 => (some y15)))))) else (if ((a0.1 == 6) || false) then ((cM n (a0.1, (a0.2.1, a0.2.2))).bind fun y16 => (if (!y16) then (some (ByteArray.mk #[])) else ((dE n a1 (ByteArray.mk #[105])).bind fun y17 => (if (!y17) then (some (ByteArray.mk #[])) else (some (ByteArray.mk #[105])))))) else (if ((a0.1 == 7) || false) then ((cM n (a0.1, (a0.2.1, a0.2.2))).bind fun y18 => (if (!y18) then (some (ByteArray.mk #[])) else ((dE n a1 (ByteArray.mk #[98])).bind fun y19 => (if (!y19) then (some (ByteArray.mk #[])) else (some (ByteArray.mk #[98])))))) else (if ((a0.1 == 8) || ((a0.1 == 9) || false)) then ((cM n (a0.1, (a0.2.1, a0.2.2))).bind fun y20 => (if (!y20) then (some (ByteArray.mk #[])) else ((dE n a1 (ByteArray.mk #[98, 98])).bind fun y21 => (if (!y21) then (some (ByteArray.mk #[])) else (some (ByteArray.mk #[98])))))) else (if ((a0.1 == 10) || false) then ((cM n (a0.1, (a0.2.1, a0.2.2))).bind fun y22 => (if (!y22) then (some (ByteArray.mk #[])) else ((dE n a1 (ByteArray.mk #[98])).bind fun y23 => (if (!y23) then (some (ByteArray.mk #[])) else (some (ByteArray.mk #[105])))))) else (if ((a0.1 == 20) || false) then ((cM n (a0.1, (a0.2.1, a0.2.2))).bind fun y24 => (if (!y24) then (some (ByteArray.mk #[])) else ((dE n a1 (ByteArray.mk #[98])).bind fun y25 => (if (!y25) then (some (ByteArray.mk #[])) else (some (ByteArray.mk #[])))))) else (some (ByteArray.mk #[]))))))))))))
def md : FS := ⟨⟨[.val gz, .val .str], []⟩, ⟨[.val .str], []⟩, ByteArray, fun y => ((y, ()), ()), fun o => o.1.1, fun x => gV n x.1.1 x.1.2.1⟩
theorem uq : dq (Dj n) 14 46 0 (md n) := fun x => by kernel_rfl
def Dl : Cx := (Cx.bare (Dj n)).addSpec 46 (md n)
theorem FK : Good (Dl n) := Good.fn (FJ n) 14 0 (uq n) (fun _ => rfl) rfl
def fX (a0 : f6) (a1 : ByteArray) : Option (ByteArray × Int) := (fW n (a0.1, (a0.2.1, a0.2.2))).bind fun y1 => (if (decide ((wrap .i64 ((a1.size : Int) - (y1.size : Int))) < 0)) then (some ((ByteArray.mk #[]), 9)) else (if (decide (0 ≤ (wrap .i64 ((a1.size : Int) - (y1.size : Int)))) && decide ((wrap .i64 ((a1.size : Int) - (y1.size : Int))) ≤ (a1.size : Int))) then ((fW n (a0.1, (a0.2.1, a0.2.2))).bind fun y2 => ((dE n (a1.extract ((wrap .i64 ((a1.size : Int) - (y1.size : Int)))).toNat a1.size) y2).bind fun y3 => (if (!y3) then (some ((ByteArray.mk #[]), 10)) else (if (decide (0 ≤ (wrap .i64 ((a1.size : Int) - (y1.size : Int)))) && decide ((wrap .i64 ((a1.size : Int) - (y1.size : Int))) ≤ (a1.size : Int))) then (if (decide (0 ≤ (wrap .i64 ((a1.size : Int) - (y1.size : Int)))) && decide ((wrap .i64 ((a1.size : Int) - (y1.size : Int))) ≤ (a1.size : Int))) then ((gV n (a0.1, (a0.2.1, a0.2.2)) (a1.extract ((wrap .i64 ((a1.size : Int) - (y1.size : Int)))).toNat a1.size)).bind fun y4 => (if decide ((a1.extract 0 ((wrap .i64 ((a1.size : Int) - (y1.size : Int)))).toNat).size + y4.size ≤ 140737488351232) then (if (decide (((((a1.extract 0 ((wrap .i64 ((a1.size : Int) - (y1.size : Int)))).toNat) ++ y4).size : Nat) : Int) > 16)) then (some ((ByteArray.mk #[]), 9)) else (some (((a1.extract 0 ((wrap .i64 ((a1.size : Int) - (y1.size : Int)))).toNat) ++ y4), 0))) else none)) else none) else none)))) else none))
def me : FS := ⟨⟨[.val gz, .val .str], []⟩, ⟨[.val .str, .val cL], []⟩, (ByteArray × Int), fun y => ((U_ u_) y, ()), fun o => (o.1.1, o.1.2.1), fun x => fX n x.1.1 x.1.2.1⟩
theorem ur : dq (Dl n) 14 40 0 (me n) := fun x => by kernel_rfl
def Dm : Cx := (Cx.bare (Dl n)).addSpec 40 (me n)
theorem FL : Good (Dm n) := Good.fn (FK n) 14 0 (ur n) (fun _ => rfl) rfl
def gL (n : Nat) (v3 : Int) (v4 : ByteArray) (v5 : (List ByteArray)) (v6 v7 : (List Bool)) : Option (AG) := if (decide (0 ≤ v3) && decide (v3 < (v6.length : Int))) then (if (v6.getD v3.toNat false) then (if (decide (0 ≤ v3) && decide (v3 < (v5.length : Int))) then (if (!((v5.getD v3.toNat ByteArray.empty).toList == v4.toList)) then (if (decide (0 ≤ v3) && decide (v3 < (v7.length : Int))) then (some (v3, v4, v5, v6, (v7.set v3.toNat true))) else none) else (some (v3, v4, v5, v6, v7))) else none) else (some (v3, v4, v5, v6, v7))) else none
def qO : Loop := ⟨⟨dn 43 0 [(0, .obj 0), (1, .val cL), (2, .val .str)], [pX]⟩, [(.norm, ⟨dn 43 0 [(0, .obj 0), (1, .val cL), (2, .val .str)], [pX]⟩)], AG, fun x => ((U_ v_) x, (dF u_) x.2.2, ()), fun (x : ((Int × ByteArray × Unit) × (nF × Unit))) => (J_ j_) x.1 ((dF k_) x.2.1), AG, fun y => ((U_ v_) y, (dF u_) y.2.2, ()), fun (o : ((Int × ByteArray × Unit) × (nF × Unit))) => (J_ j_) o.1 ((dF k_) o.2.1), (ed (C_ q_)) (gL n)⟩
def vM (n : Nat) (v16 : Int) (v17 : (List Int)) (v18 : ByteArray) (v19 : (List ByteArray)) (v20 v21 : (List Bool)) (v22 v23 v24 : Int) : Option (((jk × (nF × th × Unit)) ⊕ vD)) := if (decide (0 ≤ v16) && decide (v16 < (v20.length : Int))) then (if (!(v20.getD v16.toNat false)) then (some (.inl ((8, ()), ((v19, v20, v21, ()), (v22, v23, v24, ()), ())))) else (if (decide (0 ≤ v16) && decide (v16 < (v21.length : Int))) then (if (v21.getD v16.toNat false) then (some (.inl ((10, ()), ((v19, v20, v21, ()), (v22, v23, v24, ()), ())))) else (if (v22 == 22) then (if (decide (0 ≤ v16) && decide (v16 < (v17.length : Int))) then (if (decide (0 ≤ (v17.getD v16.toNat 0)) && decide ((v17.getD v16.toNat 0) < (v19.length : Int))) then (if (!((v19.getD ((v17.getD v16.toNat 0)).toNat ByteArray.empty).toList == v18.toList)) then (some (.inl ((10, ()), ((v19, v20, v21, ()), (v22, v23, v24, ()), ())))) else (some (.inr ((v16, v18, ()), ((v19, v20, v21, ()), (v22, v23, v24, ()), ()))))) else none) else none) else (some (.inr ((v16, v18, ()), ((v19, v20, v21, ()), (v22, v23, v24, ()), ())))))) else none)) else none
def qP : Loop := ⟨⟨dn 91 0 [(0, .obj 0), (1, .val cL), (3, .val eA), (6, .obj 1), (9, .val .str)], [pX, kh]⟩, [(.ret, ⟨dn 91 0 [(8, .val cL)], [pX, kh]⟩), (.norm, ⟨dn 91 0 [(0, .obj 0), (1, .val cL), (6, .obj 1), (9, .val .str)], [pX, kh]⟩)], (Int × (List Int) × ByteArray × (List ByteArray) × (List Bool) × (List Bool) × Int × Int × Int), fun x => ((dF v_) x, (dF v_) x.2.2.2, (dF u_) x.2.2.2.2.2.2, ()), fun (x : ((Int × (List Int) × ByteArray × Unit) × (nF × th × Unit))) => (gI j_) x.1 ((gI j_) x.2.1 ((dF k_) x.2.2.1)), ((jk × (nF × th × Unit)) ⊕ vD), fun y => y, fun y => y, (eq (ed (C_ q_))) (vM n)⟩
def sD (v20 : Int) (v21 : ByteArray) (v22 : (List ByteArray)) (v23 v24 : (List Bool)) (v25 v26 v27 : Int) : Option (AD) := if (v25 != 19) then (if (v25 != 25) then ((gL n (wrap .i64 (v20 + 1)) v21 v22 v23 v24).bind fun y28 => (if (decide (0 ≤ y28.1) && decide (y28.1 < (y28.2.2.2.1.length : Int))) then (if (decide (0 ≤ y28.1) && decide (y28.1 < (y28.2.2.1.length : Int))) then (some (v20, v21, (y28.2.2.1.set y28.1.toNat y28.2.1), (y28.2.2.2.1.set y28.1.toNat true), y28.2.2.2.2, v25, v26, v27)) else none) else none)) else (some (v20, v21, v22, v23, v24, v25, v26, v27))) else (some (v20, v21, v22, v23, v24, v25, v26, v27))
def qQ : Loop := ⟨⟨dn 91 0 [(0, .obj 0), (1, .val cL), (6, .obj 1), (10, .val .str)], [pX, kh]⟩, [(.norm, ⟨dn 91 0 [(0, .obj 0), (1, .val cL), (6, .obj 1), (10, .val .str)], [pX, kh]⟩)], AD, fun x => ((U_ v_) x, (dF v_) x.2.2, (dF u_) x.2.2.2.2.2, ()), fun (x : vD) => (J_ j_) x.1 ((gI j_) x.2.1 ((dF k_) x.2.2.1)), AD, fun y => ((U_ v_) y, (dF v_) y.2.2, (dF u_) y.2.2.2.2.2, ()), fun (o : vD) => (J_ j_) o.1 ((gI j_) o.2.1 ((dF k_) o.2.2.1)), (eq (ed q_)) (sD n)⟩
def jT (F : AE → Option (xT)) (v9 : (List Int)) (v10 : cS) (v11 v12 : Int) (v13 : (List ByteArray)) (v14 v15 : (List Bool)) : Option (xT) := if (decide (v12 < v11)) then (if (decide (0 ≤ v12) && decide (v12 < (v10.length : Int))) then (if (decide (0 ≤ v12) && decide (v12 < (v13.length : Int))) then ((vM n v12 v9 (v13.getD v12.toNat ByteArray.empty) v13 v14 v15 ((v10.getD v12.toNat (0, (0, 0))).1) ((v10.getD v12.toNat (0, (0, 0))).2.1) ((v10.getD v12.toNat (0, (0, 0))).2.2)).bind fun y16 => ((Sum.elim (fun (z17 : (jk × (nF × th × Unit))) => (if (z17.1.1 != 0) then (some (.inl (([], z17.1.1, ()), ((z17.2.1.1, z17.2.1.2.1, z17.2.1.2.2.1, ()), ())))) else (F (v9, v10, v11, (wrap .i64 (v12 + 1)), z17.2.1.1, z17.2.1.2.1, z17.2.1.2.2.1)))) (fun (z18 : vD) => ((fX n (z18.2.2.1.1, (z18.2.2.1.2.1, z18.2.2.1.2.2.1)) z18.1.2.1).bind fun y19 => (if (y19.2 != 0) then (if (y19.2 != 0) then (some (.inl (([], y19.2, ()), ((z18.2.1.1, z18.2.1.2.1, z18.2.1.2.2.1, ()), ())))) else (F (v9, v10, v11, (wrap .i64 (v12 + 1)), z18.2.1.1, z18.2.1.2.1, z18.2.1.2.2.1))) else ((sD n z18.1.1 y19.1 z18.2.1.1 z18.2.1.2.1 z18.2.1.2.2.1 z18.2.2.1.1 z18.2.2.1.2.1 z18.2.2.1.2.2.1).bind fun y20 => (if (y20.2.2.2.2.2.1 == 19) then ((gL n (wrap .i64 ((wrap .i64 (y20.1 + 1)) + y20.2.2.2.2.2.2.1)) y20.2.1 y20.2.2.1 y20.2.2.2.1 y20.2.2.2.2.1).bind fun y21 => (if (decide (0 ≤ y21.1) && decide (y21.1 < (y21.2.2.2.1.length : Int))) then (if (decide (0 ≤ y21.1) && decide (y21.1 < (y21.2.2.1.length : Int))) then (F (v9, v10, v11, (wrap .i64 (v12 + 1)), (y21.2.2.1.set y21.1.toNat y21.2.1), (y21.2.2.2.1.set y21.1.toNat true), y21.2.2.2.2)) else none) else none)) else (if (y20.2.2.2.2.2.1 == 20) then ((gL n (wrap .i64 ((wrap .i64 (y20.1 + 1)) + y20.2.2.2.2.2.2.1)) y20.2.1 y20.2.2.1 y20.2.2.2.1 y20.2.2.2.2.1).bind fun y22 => (if (decide (0 ≤ y22.1) && decide (y22.1 < (y22.2.2.2.1.length : Int))) then (if (decide (0 ≤ y22.1) && decide (y22.1 < (y22.2.2.1.length : Int))) then (F (v9, v10, v11, (wrap .i64 (v12 + 1)), (y22.2.2.1.set y22.1.toNat y22.2.1), (y22.2.2.2.1.set y22.1.toNat true), y22.2.2.2.2)) else none) else none)) else (F (v9, v10, v11, (wrap .i64 (v12 + 1)), y20.2.2.1, y20.2.2.2.1, y20.2.2.2.2.1))))))))) y16)) else none) else none) else (some (.inr ((), ((v13, v14, v15, ()), ()))))
def ne : AE → Option (xT) := it (fun F => (eq (C_ q_)) (jT n F)) n
def vN : Loop := ⟨⟨dn 54 0 [(5, .val eA), (7, .obj 0), (34, .val er), (35, .val cL), (36, .val cL)], [pX]⟩, [(.ret, ⟨dn 54 0 [(2, .row 9 .str), (3, .val cL)], [pX]⟩), (.exit 0, ⟨dn 54 0 [(7, .obj 0)], [pX]⟩)], AE, fun x => ((dF (U_ v_)) x, (dF u_) x.2.2.2.2, ()), fun (x : (((List Int) × cS × Int × Int × Unit) × (nF × Unit))) => (gI (J_ j_)) x.1 ((dF k_) x.2.1), xT, fun y => y, fun y => y, ne n⟩
def uJ (a0 : cS) : Option ((List ByteArray) × Int) := (sx n a0).bind fun y1 => (if (y1 != 0) then (some ([], y1)) else ((gg n a0).bind fun y2 => (if (decide (0 ≤ (a0.length : Int)) && ((a0.length : Int) == (a0.length : Int)) && decide ((a0.length : Int) * (16 : Int) ≤ 140737488355328) && decide (1 ≤ 16)) then (if (decide (0 ≤ (a0.length : Int)) && ((a0.length : Int) == (a0.length : Int)) && decide ((a0.length : Int) * (1 : Int) ≤ 140737488355328) && decide (1 ≤ 1)) then (if (decide (0 ≤ (a0.length : Int)) && ((a0.length : Int) == (a0.length : Int)) && decide ((a0.length : Int) * (1 : Int) ≤ 140737488355328) && decide (1 ≤ 1)) then ((gL n 0 (ByteArray.mk #[]) (List.replicate ((a0.length : Int)).toNat ByteArray.empty) (List.replicate ((a0.length : Int)).toNat false) (List.replicate ((a0.length : Int)).toNat false)).bind fun y3 => (if (decide (0 ≤ y3.1) && decide (y3.1 < (y3.2.2.2.1.length : Int))) then (if (decide (0 ≤ y3.1) && decide (y3.1 < (y3.2.2.1.length : Int))) then ((ne n (y2.1, a0, (a0.length : Int), 0, (y3.2.2.1.set y3.1.toNat y3.2.1), (y3.2.2.2.1.set y3.1.toNat true), y3.2.2.2.2)).bind fun y4 => ((Sum.elim (fun (z5 : (((List ByteArray) × Int × Unit) × (nF × Unit))) => (some (z5.1.1, z5.1.2.1))) (fun (z6 : (Unit × (nF × Unit))) => (some (z6.2.1.1, 0)))) y4)) else none) else none)) else none) else none) else none)))
def zo : FS := ⟨⟨[.val er], []⟩, ⟨[.val (.sl .str), .val cL], []⟩, ((List ByteArray) × Int), fun y => ((U_ u_) y, ()), fun o => (o.1.1, o.1.2.1), fun x => uJ n x.1.1⟩
theorem AY : ∀ x, gf (Dm n) 14 34 0 1000002 (qO n) x = (qO n).fn x := fun x => by kernel_rfl
def qR : Cx := Cx.addLoop (Dm n) 34 1000002 (qO n)
theorem AZ : Good (qR n) := fp (FL n) 14 0 (by kernel_rfl) (AY n) (fun _ => rfl) (fun _ => rfl) rfl
theorem A2 : ∀ x, gf (qR n) 14 35 0 1000007 (qP n) x = (qP n).fn x := fun x => by kernel_rfl
def qS : Cx := Cx.addLoop (qR n) 35 1000007 (qP n)
theorem A3 : Good (qS n) := fp (AZ n) 14 0 (by kernel_rfl) (A2 n) (fun _ => rfl) (fun _ => rfl) rfl
theorem A4 : ∀ x, gf (qS n) 14 35 0 1000012 (qQ n) x = (qQ n).fn x := fun x => by kernel_rfl
def qT : Cx := Cx.addLoop (qS n) 35 1000012 (qQ n)
theorem A5 : Good (qT n) := fp (A3 n) 14 0 (by kernel_rfl) (A4 n) (fun _ => rfl) (fun _ => rfl) rfl
theorem A6 : ∀ F x, dW (qT n) 14 19 0 8 (vN n) F x = (eq (C_ q_)) (jT n F) x := fun F x => by kernel_rfl
def qU : Cx := Cx.addLoop (qT n) 19 8 (vN n)
theorem A7 : Good (qU n) := Good.loop (A5 n) 14 0 (by kernel_rfl) (A6 n) n (fun _ => rfl) (fun _ => rfl) (fun _ => rfl) rfl
theorem Eo : dq (qU n) 14 19 0 (zo n) := fun x => by kernel_rfl
def Dn : Cx := (Cx.bare (qU n)).addSpec 19 (zo n)
theorem FM : Good (Dn n) := Good.fn (A7 n) 14 0 (Eo n) (fun _ => rfl) rfl
def fO (n : Nat) (v1 : cS) (v2 v3 : (List Int)) (v4 : Bool) (v5 : Int) (v6 v7 v8 v9 : (List Int)) (v10 : Int) (v11 : (List Int)) (v12 v13 v14 : Int) : Option Da := some (v4, v1, v2, v3, v4, v5, v6, v7, v8, v9, v10, v11, v12, v13, v14)
def ik : FS := ⟨⟨[.obj 0], [dP]⟩, ⟨[.val .bool], [dP]⟩, Da, fun y => ((y.1, ()), (de (di (U_ u_))) y.2, ()), fun (o : (kP × jl)) => (o.1.1, ((de (di (U_ k_))) o.2.1)), fun (x : (Unit × jl)) => fO n x.2.1.1 x.2.1.2.1 x.2.1.2.2.1 x.2.1.2.2.2.1 x.2.1.2.2.2.2.1 x.2.1.2.2.2.2.2.1 x.2.1.2.2.2.2.2.2.1 x.2.1.2.2.2.2.2.2.2.1 x.2.1.2.2.2.2.2.2.2.2.1 x.2.1.2.2.2.2.2.2.2.2.2.1 x.2.1.2.2.2.2.2.2.2.2.2.2.1 x.2.1.2.2.2.2.2.2.2.2.2.2.2.1 x.2.1.2.2.2.2.2.2.2.2.2.2.2.2.1 x.2.1.2.2.2.2.2.2.2.2.2.2.2.2.2.1⟩
theorem nf : dq (Dn n) 14 22 0 (ik n) := fun x => by kernel_rfl
def Do : Cx := (Cx.bare (Dn n)).addSpec 22 (ik n)
theorem FN : Good (Do n) := Good.fn (FM n) 14 0 (nf n) (fun _ => rfl) rfl
def fq (n : Nat) (a0 : f6) : Option Bool := some ((a0.1 == (if (if 100 < a0.1 then 100 else a0.1) > 0 then (if 100 < a0.1 then 100 else a0.1) else 0)) && ((a0.2.1 == (if (if 100 < a0.2.1 then 100 else a0.2.1) > 1 then (if 100 < a0.2.1 then 100 else a0.2.1) else 1)) && (a0.2.2 == (if (if 100 < a0.2.2 then 100 else a0.2.2) > 1 then (if 100 < a0.2.2 then 100 else a0.2.2) else 1))))
def i7 : FS := ⟨⟨[.val gz], []⟩, ⟨[.val .bool], []⟩, Bool, fun y => ((y, ()), ()), fun o => o.1.1, fun x => fq n x.1.1⟩
theorem oK : dq (Do n) 14 23 0 (i7 n) := fun x => by kernel_rfl
def Dp : Cx := (Cx.bare (Do n)).addSpec 23 (i7 n)
theorem FO : Good (Dp n) := Good.fn (FN n) 14 0 (oK n) (fun _ => rfl) rfl
def eZ (n : Nat) (v1 v2 v3 v4 v5 v6 v7 v8 v9 : Int) (v10 : (List Int)) (v11 : cS) (v12 v13 : (List Int)) (v14 : Bool) (v15 : Int) (v16 v17 v18 v19 : (List Int)) (v20 : Int) (v21 : (List Int)) (v22 v23 v24 : Int) : Option C7 := some ((v7 == 5), v1, v2, v3, v4, v5, v6, v7, v8, v9, v10, v11, v12, v13, v14, v15, v16, v17, v18, v19, v20, v21, v22, v23, v24)
def ki : FS := ⟨⟨[.obj 0], [nE, dP]⟩, ⟨[.val .bool], [nE, dP]⟩, C7, fun y => ((y.1, ()), (de (U_ v_)) y.2, (de (di (U_ u_))) y.2.2.2.2.2.2.2.2.2.2.2, ()), fun (o : (kP × j9)) => (o.1.1, ((fD (J_ j_)) o.2.1 ((de (di (U_ k_))) o.2.2.1))), fun (x : (Unit × j9)) => eZ n x.2.1.1 x.2.1.2.1 x.2.1.2.2.1 x.2.1.2.2.2.1 x.2.1.2.2.2.2.1 x.2.1.2.2.2.2.2.1 x.2.1.2.2.2.2.2.2.1 x.2.1.2.2.2.2.2.2.2.1 x.2.1.2.2.2.2.2.2.2.2.1 x.2.1.2.2.2.2.2.2.2.2.2.1 x.2.2.1.1 x.2.2.1.2.1 x.2.2.1.2.2.1 x.2.2.1.2.2.2.1 x.2.2.1.2.2.2.2.1 x.2.2.1.2.2.2.2.2.1 x.2.2.1.2.2.2.2.2.2.1 x.2.2.1.2.2.2.2.2.2.2.1 x.2.2.1.2.2.2.2.2.2.2.2.1 x.2.2.1.2.2.2.2.2.2.2.2.2.1 x.2.2.1.2.2.2.2.2.2.2.2.2.2.1 x.2.2.1.2.2.2.2.2.2.2.2.2.2.2.1 x.2.2.1.2.2.2.2.2.2.2.2.2.2.2.2.1 x.2.2.1.2.2.2.2.2.2.2.2.2.2.2.2.2.1⟩
theorem qV : dq (Dp n) 14 8 0 (ki n) := fun x => by kernel_rfl
def Dq : Cx := (Cx.bare (Dp n)).addSpec 8 (ki n)
theorem FP : Good (Dq n) := Good.fn (FO n) 14 0 (qV n) (fun _ => rfl) rfl
def dC (n : Nat) (v1 : cS) (v2 v3 : (List Int)) (v4 : Bool) (v5 : Int) (v6 v7 v8 v9 : (List Int)) (v10 : Int) (v11 : (List Int)) (v12 v13 v14 : Int) : Option tg := if (decide (0 ≤ (wrap .i64 ((v6.length : Int) - 1))) && decide ((wrap .i64 ((v6.length : Int) - 1)) < (v6.length : Int))) then (if (decide (0 ≤ (wrap .i64 ((v6.length : Int) - 1))) && decide ((wrap .i64 ((v6.length : Int) - 1)) ≤ (v6.length : Int))) then (some ((v6.getD ((wrap .i64 ((v6.length : Int) - 1))).toNat 0), v1, v2, v3, v4, v5, (v6.take (((wrap .i64 ((v6.length : Int) - 1))).toNat - 0)), v7, v8, v9, v10, v11, v12, v13, v14)) else none) else none
def zp : FS := ⟨⟨[.obj 0], [dP]⟩, ⟨[.val cL], [dP]⟩, tg, fun y => ((y.1, ()), (de (di (U_ u_))) y.2, ()), fun (o : (jk × jl)) => (o.1.1, ((de (di (U_ k_))) o.2.1)), fun (x : (Unit × jl)) => dC n x.2.1.1 x.2.1.2.1 x.2.1.2.2.1 x.2.1.2.2.2.1 x.2.1.2.2.2.2.1 x.2.1.2.2.2.2.2.1 x.2.1.2.2.2.2.2.2.1 x.2.1.2.2.2.2.2.2.2.1 x.2.1.2.2.2.2.2.2.2.2.1 x.2.1.2.2.2.2.2.2.2.2.2.1 x.2.1.2.2.2.2.2.2.2.2.2.2.1 x.2.1.2.2.2.2.2.2.2.2.2.2.2.1 x.2.1.2.2.2.2.2.2.2.2.2.2.2.2.1 x.2.1.2.2.2.2.2.2.2.2.2.2.2.2.2.1⟩
theorem Ep : dq (Dq n) 14 83 0 (zp n) := fun x => by kernel_rfl
def oL : Cx := (Cx.bare (Dq n)).addSpec 83 (zp n)
theorem FQ : Good (oL n) := Good.fn (FP n) 14 0 (Ep n) (fun _ => rfl) rfl
def fu (n : Nat) (a0 : Bool) : Option Int := if a0 then (some 1) else (some 0)
def p6 : FS := ⟨⟨[.val .bool], []⟩, ⟨[.val cL], []⟩, Int, fun y => ((y, ()), ()), fun o => o.1.1, fun x => fu n x.1.1⟩
theorem yc : dq (oL n) 14 85 0 (p6 n) := fun x => by kernel_rfl
def Dr : Cx := (Cx.bare (oL n)).addSpec 85 (p6 n)
theorem FR : Good (Dr n) := Good.fn (FQ n) 14 0 (yc n) (fun _ => rfl) rfl
def jU (a0 : Int) : Option Int := (fu n (a0 == 0)).bind fun y1 => (some y1)
def sE : FS := ⟨⟨[.val cL], []⟩, ⟨[.val cL], []⟩, Int, fun y => ((y, ()), ()), fun o => o.1.1, fun x => jU n x.1.1⟩
theorem zr : dq (Dr n) 14 87 0 (sE n) := fun x => by kernel_rfl
def Ds : Cx := (Cx.bare (Dr n)).addSpec 87 (sE n)
theorem FT : Good (Ds n) := Good.fn (FR n) 14 0 (zr n) (fun _ => rfl) rfl
def lz (n : Nat) (a0 : Int) : Option Int := some (wrap .i64 (0 - a0))
def sF : FS := ⟨⟨[.val cL], []⟩, ⟨[.val cL], []⟩, Int, fun y => ((y, ()), ()), fun o => o.1.1, fun x => lz n x.1.1⟩
theorem zt : dq (Ds n) 14 86 0 (sF n) := fun x => by kernel_rfl
def Dt : Cx := (Cx.bare (Ds n)).addSpec 86 (sF n)
theorem FU : Good (Dt n) := Good.fn (FT n) 14 0 (zt n) (fun _ => rfl) rfl
def mf (a0 : Int) (a1 : Int) : Option Int := (fu n (a0 == a1)).bind fun y1 => (some y1)
def lA : FS := ⟨⟨pY, []⟩, ⟨[.val cL], []⟩, Int, fun y => ((y, ()), ()), fun o => o.1.1, fun x => mf n x.1.1 x.1.2.1⟩
theorem tq : dq (Dt n) 14 99 0 (lA n) := fun x => by kernel_rfl
def Du : Cx := (Cx.bare (Dt n)).addSpec 99 (lA n)
theorem FV : Good (Du n) := Good.fn (FU n) 14 0 (tq n) (fun _ => rfl) rfl
def nK (a0 : Int) (a1 : Int) : Option Int := (fu n (decide (a0 < a1))).bind fun y1 => (some y1)
def mg : FS := ⟨⟨pY, []⟩, ⟨[.val cL], []⟩, Int, fun y => ((y, ()), ()), fun o => o.1.1, fun x => nK n x.1.1 x.1.2.1⟩
theorem ut : dq (Du n) 14 98 0 (mg n) := fun x => by kernel_rfl
def Dv : Cx := (Cx.bare (Du n)).addSpec 98 (mg n)
theorem FW : Good (Dv n) := Good.fn (FV n) 14 0 (ut n) (fun _ => rfl) rfl
def nL (n : Nat) (a0 : Int) (a1 : Int) : Option Int := if decide ((bits .and .i64 a1 63) < 0) then none else (some (a0.fdiv (2 ^ (min ((bits .and .i64 a1 63)).toNat 64))))
def mj : FS := ⟨⟨pY, []⟩, ⟨[.val cL], []⟩, Int, fun y => ((y, ()), ()), fun o => o.1.1, fun x => nL n x.1.1 x.1.2.1⟩
theorem uu : dq (Dv n) 14 97 0 (mj n) := fun x => by kernel_rfl
def Dw : Cx := (Cx.bare (Dv n)).addSpec 97 (mj n)
theorem FX : Good (Dw n) := Good.fn (FW n) 14 0 (uu n) (fun _ => rfl) rfl
def nM (n : Nat) (a0 : Int) (a1 : Int) : Option Int := if decide ((bits .and .i64 a1 63) < 0) then none else (some (wrap .i64 (a0 * 2 ^ (min ((bits .and .i64 a1 63)).toNat 64))))
def ml : FS := ⟨⟨pY, []⟩, ⟨[.val cL], []⟩, Int, fun y => ((y, ()), ()), fun o => o.1.1, fun x => nM n x.1.1 x.1.2.1⟩
theorem uv : dq (Dw n) 14 96 0 (ml n) := fun x => by kernel_rfl
def Dx : Cx := (Cx.bare (Dw n)).addSpec 96 (ml n)
theorem FY : Good (Dx n) := Good.fn (FX n) 14 0 (uv n) (fun _ => rfl) rfl
def nN (n : Nat) (a0 : Int) (a1 : Int) : Option Int := some (bits .xor .i64 a0 a1)
def mn : FS := ⟨⟨pY, []⟩, ⟨[.val cL], []⟩, Int, fun y => ((y, ()), ()), fun o => o.1.1, fun x => nN n x.1.1 x.1.2.1⟩
theorem uw : dq (Dx n) 14 95 0 (mn n) := fun x => by kernel_rfl
def Dy : Cx := (Cx.bare (Dx n)).addSpec 95 (mn n)
theorem FZ : Good (Dy n) := Good.fn (FY n) 14 0 (uw n) (fun _ => rfl) rfl
def nO (n : Nat) (a0 : Int) (a1 : Int) : Option Int := some (bits .or .i64 a0 a1)
def mo : FS := ⟨⟨pY, []⟩, ⟨[.val cL], []⟩, Int, fun y => ((y, ()), ()), fun o => o.1.1, fun x => nO n x.1.1 x.1.2.1⟩
theorem uy : dq (Dy n) 14 94 0 (mo n) := fun x => by kernel_rfl
def Dz : Cx := (Cx.bare (Dy n)).addSpec 94 (mo n)
theorem F0 : Good (Dz n) := Good.fn (FZ n) 14 0 (uy n) (fun _ => rfl) rfl
def nP (n : Nat) (a0 : Int) (a1 : Int) : Option Int := some (bits .and .i64 a0 a1)
def mq : FS := ⟨⟨pY, []⟩, ⟨[.val cL], []⟩, Int, fun y => ((y, ()), ()), fun o => o.1.1, fun x => nP n x.1.1 x.1.2.1⟩
theorem uz : dq (Dz n) 14 93 0 (mq n) := fun x => by kernel_rfl
def DA : Cx := (Cx.bare (Dz n)).addSpec 93 (mq n)
theorem F1 : Good (DA n) := Good.fn (F0 n) 14 0 (uz n) (fun _ => rfl) rfl
def nQ (n : Nat) (a0 : Int) (a1 : Int) : Option Int := some (wrap .i64 (a0 * a1))
def mr : FS := ⟨⟨pY, []⟩, ⟨[.val cL], []⟩, Int, fun y => ((y, ()), ()), fun o => o.1.1, fun x => nQ n x.1.1 x.1.2.1⟩
theorem uA : dq (DA n) 14 92 0 (mr n) := fun x => by kernel_rfl
def DB : Cx := (Cx.bare (DA n)).addSpec 92 (mr n)
theorem F2 : Good (DB n) := Good.fn (F1 n) 14 0 (uA n) (fun _ => rfl) rfl
def nR (n : Nat) (a0 : Int) (a1 : Int) : Option Int := some (wrap .i64 (a0 - a1))
def ms : FS := ⟨⟨pY, []⟩, ⟨[.val cL], []⟩, Int, fun y => ((y, ()), ()), fun o => o.1.1, fun x => nR n x.1.1 x.1.2.1⟩
theorem uB : dq (DB n) 14 91 0 (ms n) := fun x => by kernel_rfl
def DC : Cx := (Cx.bare (DB n)).addSpec 91 (ms n)
theorem F3 : Good (DC n) := Good.fn (F2 n) 14 0 (uB n) (fun _ => rfl) rfl
def nS (n : Nat) (a0 : Int) (a1 : Int) : Option Int := some (wrap .i64 (a0 + a1))
def mu : FS := ⟨⟨pY, []⟩, ⟨[.val cL], []⟩, Int, fun y => ((y, ()), ()), fun o => o.1.1, fun x => nS n x.1.1 x.1.2.1⟩
theorem uC : dq (DC n) 14 90 0 (mu n) := fun x => by kernel_rfl
def DD : Cx := (Cx.bare (DC n)).addSpec 90 (mu n)
theorem F4 : Good (DD n) := Good.fn (F3 n) 14 0 (uC n) (fun _ => rfl) rfl
def dA (a0 : Int) (a1 : Int) (a2 : Int) : Option (Int × Bool) := if ((a0 == 12) || false) then ((mf n a1 a2).bind fun y1 => (some (y1, false))) else (if ((a0 == 11) || false) then ((nK n a1 a2).bind fun y2 => (some (y2, false))) else (if ((a0 == 10) || false) then ((nL n a1 a2).bind fun y3 => (some (y3, false))) else (if ((a0 == 9) || false) then ((nM n a1 a2).bind fun y4 => (some (y4, false))) else (if ((a0 == 8) || false) then ((nN n a1 a2).bind fun y5 => (some (y5, false))) else (if ((a0 == 7) || false) then ((nO n a1 a2).bind fun y6 => (some (y6, false))) else (if ((a0 == 6) || false) then ((nP n a1 a2).bind fun y7 => (some (y7, false))) else (if ((a0 == 3) || false) then ((nQ n a1 a2).bind fun y8 => (some (y8, false))) else (if ((a0 == 2) || false) then ((nR n a1 a2).bind fun y9 => (some (y9, false))) else (if ((a0 == 1) || false) then ((nS n a1 a2).bind fun y10 => (some (y10, false))) else (if (a2 == 0) then (some (0, true)) else (if (a0 == 4) then (if (a2 == 0) then none else (some ((wrap .i64 (a1.tdiv a2)), false))) else (if (a0 == 5) then (if (a2 == 0) then none else (some ((a1.tmod a2), false))) else (some (0, true))))))))))))))
def sG : FS := ⟨⟨kh, []⟩, ⟨[.val cL, .val .bool], []⟩, (Int × Bool), fun y => ((U_ u_) y, ()), fun o => (o.1.1, o.1.2.1), fun x => dA n x.1.1 x.1.2.1 x.1.2.2.1⟩
theorem zu : dq (DD n) 14 84 0 (sG n) := fun x => by kernel_rfl
def DE : Cx := (Cx.bare (DD n)).addSpec 84 (sG n)
theorem F5 : Good (DE n) := Good.fn (F4 n) 14 0 (zu n) (fun _ => rfl) rfl
def db (v1 : cS) (v2 v3 : (List Int)) (v4 : Bool) (v5 : Int) (v6 v7 v8 v9 : (List Int)) (v10 : Int) (v11 : (List Int)) (v12 v13 v14 : Int) (v15 : (List (List Int))) : Option C9 := if (!(decide ((v1.length : Int) > 0))) then (some ((0, 0), 15, v1, v2, v3, v4, v5, v6, v7, v8, v9, v10, v11, v12, v13, v14, v15)) else (if (!v4) then (some ((0, 0), 16, v1, v2, v3, v4, v5, v6, v7, v8, v9, v10, v11, v12, v13, v14, v15)) else (if (decide (0 ≤ v5) && decide (v5 < (v1.length : Int))) then (if (((v1.getD v5.toNat (0, (0, 0))).1 == 25) || false) then (some ((3, 0), 0, v1, v2, v3, false, (wrap .i64 (v5 + 1)), v6, v7, v8, v9, v10, v11, v12, v13, (wrap .i64 (v14 + 1)), v15)) else (if (((v1.getD v5.toNat (0, (0, 0))).1 == 24) || false) then (if decide ((v1.getD v5.toNat (0, (0, 0))).2.1 < 0) then none else (some ((2, (v1.getD v5.toNat (0, (0, 0))).2.1), 0, v1, v2, v3, v4, (wrap .i64 (v5 + 1)), v6, v7, v8, v9, v10, v11, (bits .andNot .i64 v12 (wrap .i64 (1 * 2 ^ (min ((v1.getD v5.toNat (0, (0, 0))).2.1).toNat 64)))), v13, (wrap .i64 (v14 + 1)), v15))) else (if (((v1.getD v5.toNat (0, (0, 0))).1 == 23) || false) then (if decide ((v1.getD v5.toNat (0, (0, 0))).2.1 < 0) then none else (some ((1, (v1.getD v5.toNat (0, (0, 0))).2.1), 0, v1, v2, v3, v4, (wrap .i64 (v5 + 1)), v6, v7, v8, v9, v10, v11, (bits .or .i64 v12 (wrap .i64 (1 * 2 ^ (min ((v1.getD v5.toNat (0, (0, 0))).2.1).toNat 64)))), v13, (wrap .i64 (v14 + 1)), v15))) else (if (((v1.getD v5.toNat (0, (0, 0))).1 == 22) || false) then (if (decide (0 ≤ (wrap .i64 ((v11.length : Int) - 1))) && decide ((wrap .i64 ((v11.length : Int) - 1)) < (v11.length : Int))) then (if (decide (0 ≤ (wrap .i64 ((v11.length : Int) - 1))) && decide ((wrap .i64 ((v11.length : Int) - 1)) < (v11.length : Int))) then (if (decide (0 ≤ (wrap .i64 ((v11.length : Int) - 1))) && decide ((wrap .i64 ((v11.length : Int) - 1)) < (((v11.set ((wrap .i64 ((v11.length : Int) - 1))).toNat (wrap .i64 ((v11.getD ((wrap .i64 ((v11.length : Int) - 1))).toNat 0) - 1))).length : Nat) : Int))) then (if (decide (((v11.set ((wrap .i64 ((v11.length : Int) - 1))).toNat (wrap .i64 ((v11.getD ((wrap .i64 ((v11.length : Int) - 1))).toNat 0) - 1))).getD ((wrap .i64 ((v11.length : Int) - 1))).toNat 0) > 0)) then (if (decide (0 ≤ v5) && decide (v5 < (v2.length : Int))) then (some ((0, 0), 0, v1, v2, v3, v4, (wrap .i64 ((v2.getD v5.toNat 0) + 1)), v6, v7, v8, v9, v10, (v11.set ((wrap .i64 ((v11.length : Int) - 1))).toNat (wrap .i64 ((v11.getD ((wrap .i64 ((v11.length : Int) - 1))).toNat 0) - 1))), v12, v13, (wrap .i64 (v14 + 1)), v15)) else none) else (if (decide (0 ≤ (wrap .i64 ((v11.length : Int) - 1))) && decide ((wrap .i64 ((v11.length : Int) - 1)) ≤ (((v11.set ((wrap .i64 ((v11.length : Int) - 1))).toNat (wrap .i64 ((v11.getD ((wrap .i64 ((v11.length : Int) - 1))).toNat 0) - 1))).length : Nat) : Int))) then (some ((0, 0), 0, v1, v2, v3, v4, (wrap .i64 (v5 + 1)), v6, v7, v8, v9, v10, ((v11.set ((wrap .i64 ((v11.length : Int) - 1))).toNat (wrap .i64 ((v11.getD ((wrap .i64 ((v11.length : Int) - 1))).toNat 0) - 1))).take (((wrap .i64 ((v11.length : Int) - 1))).toNat - 0)), v12, v13, (wrap .i64 (v14 + 1)), v15)) else none)) else none) else none) else none) else (if (((v1.getD v5.toNat (0, (0, 0))).1 == 21) || false) then (if (decide ((v11.length + 1) * 8 ≤ 140737488355328) && decide (1 ≤ 8)) then (some ((0, 0), 0, v1, v2, v3, v4, (wrap .i64 (v5 + 1)), v6, v7, v8, v9, v10, (v11 ++ [(v1.getD v5.toNat (0, (0, 0))).2.1]), v12, v13, (wrap .i64 (v14 + 1)), v15)) else none) else (if (((v1.getD v5.toNat (0, (0, 0))).1 == 20) || false) then ((dC n v1 v2 v3 v4 v5 v6 v7 v8 v9 v10 v11 v12 v13 v14).bind fun y16 => (if (y16.1 == 0) then (some ((0, 0), 0, y16.2.1, y16.2.2.1, y16.2.2.2.1, y16.2.2.2.2.1, (wrap .i64 ((wrap .i64 (v5 + 1)) + (v1.getD v5.toNat (0, (0, 0))).2.1)), y16.2.2.2.2.2.2.1, y16.2.2.2.2.2.2.2.1, y16.2.2.2.2.2.2.2.2.1, y16.2.2.2.2.2.2.2.2.2.1, y16.2.2.2.2.2.2.2.2.2.2.1, y16.2.2.2.2.2.2.2.2.2.2.2.1, y16.2.2.2.2.2.2.2.2.2.2.2.2.1, y16.2.2.2.2.2.2.2.2.2.2.2.2.2.1, (wrap .i64 (y16.2.2.2.2.2.2.2.2.2.2.2.2.2.2 + 1)), v15)) else (some ((0, 0), 0, y16.2.1, y16.2.2.1, y16.2.2.2.1, y16.2.2.2.2.1, (wrap .i64 (v5 + 1)), y16.2.2.2.2.2.2.1, y16.2.2.2.2.2.2.2.1, y16.2.2.2.2.2.2.2.2.1, y16.2.2.2.2.2.2.2.2.2.1, y16.2.2.2.2.2.2.2.2.2.2.1, y16.2.2.2.2.2.2.2.2.2.2.2.1, y16.2.2.2.2.2.2.2.2.2.2.2.2.1, y16.2.2.2.2.2.2.2.2.2.2.2.2.2.1, (wrap .i64 (y16.2.2.2.2.2.2.2.2.2.2.2.2.2.2 + 1)), v15)))) else (if (((v1.getD v5.toNat (0, (0, 0))).1 == 19) || false) then (some ((0, 0), 0, v1, v2, v3, v4, (wrap .i64 ((wrap .i64 (v5 + 1)) + (v1.getD v5.toNat (0, (0, 0))).2.1)), v6, v7, v8, v9, v10, v11, v12, v13, (wrap .i64 (v14 + 1)), v15)) else (if (((v1.getD v5.toNat (0, (0, 0))).1 == 18) || false) then ((dC n v1 v2 v3 v4 v5 v6 v7 v8 v9 v10 v11 v12 v13 v14).bind fun y17 => (if (decide (0 ≤ (v1.getD v5.toNat (0, (0, 0))).2.1) && decide ((v1.getD v5.toNat (0, (0, 0))).2.1 < 8)) then (if (decide (0 ≤ (v1.getD v5.toNat (0, (0, 0))).2.2) && decide ((v1.getD v5.toNat (0, (0, 0))).2.2 < 8)) then (some ((0, 0), 0, y17.2.1, y17.2.2.1, y17.2.2.2.1, y17.2.2.2.2.1, (wrap .i64 (v5 + 1)), y17.2.2.2.2.2.2.1, y17.2.2.2.2.2.2.2.1, y17.2.2.2.2.2.2.2.2.1, y17.2.2.2.2.2.2.2.2.2.1, y17.2.2.2.2.2.2.2.2.2.2.1, y17.2.2.2.2.2.2.2.2.2.2.2.1, y17.2.2.2.2.2.2.2.2.2.2.2.2.1, y17.2.2.2.2.2.2.2.2.2.2.2.2.2.1, (wrap .i64 (y17.2.2.2.2.2.2.2.2.2.2.2.2.2.2 + 1)), (v15.set ((v1.getD v5.toNat (0, (0, 0))).2.1).toNat ((v15.getD ((v1.getD v5.toNat (0, (0, 0))).2.1).toNat [0, 0, 0, 0, 0, 0, 0, 0]).set ((v1.getD v5.toNat (0, (0, 0))).2.2).toNat y17.1)))) else none) else none)) else (if (((v1.getD v5.toNat (0, (0, 0))).1 == 17) || false) then (if (decide (0 ≤ (v1.getD v5.toNat (0, (0, 0))).2.1) && decide ((v1.getD v5.toNat (0, (0, 0))).2.1 < 8)) then (if (decide (0 ≤ (v1.getD v5.toNat (0, (0, 0))).2.2) && decide ((v1.getD v5.toNat (0, (0, 0))).2.2 < 8)) then (if (decide ((v6.length + 1) * 8 ≤ 140737488355328) && decide (1 ≤ 8)) then (some ((0, 0), 0, v1, v2, v3, v4, (wrap .i64 (v5 + 1)), (v6 ++ [((v15.getD ((v1.getD v5.toNat (0, (0, 0))).2.1).toNat [0, 0, 0, 0, 0, 0, 0, 0]).getD ((v1.getD v5.toNat (0, (0, 0))).2.2).toNat 0)]), v7, v8, v9, v10, v11, v12, v13, (wrap .i64 (v14 + 1)), v15)) else none) else none) else none) else (if (((v1.getD v5.toNat (0, (0, 0))).1 == 16) || false) then ((dC n v1 v2 v3 v4 v5 v6 v7 v8 v9 v10 v11 v12 v13 v14).bind fun y18 => (if (decide (0 ≤ (v1.getD v5.toNat (0, (0, 0))).2.1) && decide ((v1.getD v5.toNat (0, (0, 0))).2.1 < 16)) then (if decide ((v1.getD v5.toNat (0, (0, 0))).2.1 < 0) then none else (some ((0, 0), 0, y18.2.1, y18.2.2.1, y18.2.2.2.1, y18.2.2.2.2.1, (wrap .i64 (v5 + 1)), y18.2.2.2.2.2.2.1, y18.2.2.2.2.2.2.2.1, y18.2.2.2.2.2.2.2.2.1, (y18.2.2.2.2.2.2.2.2.2.1.set ((v1.getD v5.toNat (0, (0, 0))).2.1).toNat y18.1), (bits .or .i64 y18.2.2.2.2.2.2.2.2.2.2.1 (wrap .i64 (1 * 2 ^ (min ((v1.getD v5.toNat (0, (0, 0))).2.1).toNat 64)))), y18.2.2.2.2.2.2.2.2.2.2.2.1, y18.2.2.2.2.2.2.2.2.2.2.2.2.1, y18.2.2.2.2.2.2.2.2.2.2.2.2.2.1, (wrap .i64 (y18.2.2.2.2.2.2.2.2.2.2.2.2.2.2 + 1)), v15))) else none)) else (if (((v1.getD v5.toNat (0, (0, 0))).1 == 15) || false) then (if (decide (0 ≤ (v1.getD v5.toNat (0, (0, 0))).2.1) && decide ((v1.getD v5.toNat (0, (0, 0))).2.1 < 16)) then (if (decide ((v6.length + 1) * 8 ≤ 140737488355328) && decide (1 ≤ 8)) then (some ((0, 0), 0, v1, v2, v3, v4, (wrap .i64 (v5 + 1)), (v6 ++ [(v8.getD ((v1.getD v5.toNat (0, (0, 0))).2.1).toNat 0)]), v7, v8, v9, v10, v11, v12, v13, (wrap .i64 (v14 + 1)), v15)) else none) else none) else (if (((v1.getD v5.toNat (0, (0, 0))).1 == 14) || false) then ((dC n v1 v2 v3 v4 v5 v6 v7 v8 v9 v10 v11 v12 v13 v14).bind fun y19 => (if (decide (0 ≤ (v1.getD v5.toNat (0, (0, 0))).2.1) && decide ((v1.getD v5.toNat (0, (0, 0))).2.1 < 8)) then (some ((0, 0), 0, y19.2.1, y19.2.2.1, (y19.2.2.2.1.set ((v1.getD v5.toNat (0, (0, 0))).2.1).toNat y19.1), y19.2.2.2.2.1, (wrap .i64 (v5 + 1)), y19.2.2.2.2.2.2.1, y19.2.2.2.2.2.2.2.1, y19.2.2.2.2.2.2.2.2.1, y19.2.2.2.2.2.2.2.2.2.1, y19.2.2.2.2.2.2.2.2.2.2.1, y19.2.2.2.2.2.2.2.2.2.2.2.1, y19.2.2.2.2.2.2.2.2.2.2.2.2.1, y19.2.2.2.2.2.2.2.2.2.2.2.2.2.1, (wrap .i64 (y19.2.2.2.2.2.2.2.2.2.2.2.2.2.2 + 1)), v15)) else none)) else (if (((v1.getD v5.toNat (0, (0, 0))).1 == 13) || false) then (if (decide (0 ≤ (v1.getD v5.toNat (0, (0, 0))).2.1) && decide ((v1.getD v5.toNat (0, (0, 0))).2.1 < 8)) then (if (decide ((v6.length + 1) * 8 ≤ 140737488355328) && decide (1 ≤ 8)) then (some ((0, 0), 0, v1, v2, v3, v4, (wrap .i64 (v5 + 1)), (v6 ++ [(v3.getD ((v1.getD v5.toNat (0, (0, 0))).2.1).toNat 0)]), v7, v8, v9, v10, v11, v12, v13, (wrap .i64 (v14 + 1)), v15)) else none) else none) else (if (((v1.getD v5.toNat (0, (0, 0))).1 == 12) || false) then ((dC n v1 v2 v3 v4 v5 v6 v7 v8 v9 v10 v11 v12 v13 v14).bind fun y20 => (if (decide (0 ≤ (v1.getD v5.toNat (0, (0, 0))).2.1) && decide ((v1.getD v5.toNat (0, (0, 0))).2.1 < 8)) then (some ((0, 0), 0, y20.2.1, y20.2.2.1, y20.2.2.2.1, y20.2.2.2.2.1, (wrap .i64 (v5 + 1)), y20.2.2.2.2.2.2.1, (y20.2.2.2.2.2.2.2.1.set ((v1.getD v5.toNat (0, (0, 0))).2.1).toNat y20.1), y20.2.2.2.2.2.2.2.2.1, y20.2.2.2.2.2.2.2.2.2.1, y20.2.2.2.2.2.2.2.2.2.2.1, y20.2.2.2.2.2.2.2.2.2.2.2.1, y20.2.2.2.2.2.2.2.2.2.2.2.2.1, y20.2.2.2.2.2.2.2.2.2.2.2.2.2.1, (wrap .i64 (y20.2.2.2.2.2.2.2.2.2.2.2.2.2.2 + 1)), v15)) else none)) else (if (((v1.getD v5.toNat (0, (0, 0))).1 == 11) || false) then (if (decide (0 ≤ (v1.getD v5.toNat (0, (0, 0))).2.1) && decide ((v1.getD v5.toNat (0, (0, 0))).2.1 < 8)) then (if (decide ((v6.length + 1) * 8 ≤ 140737488355328) && decide (1 ≤ 8)) then (some ((0, 0), 0, v1, v2, v3, v4, (wrap .i64 (v5 + 1)), (v6 ++ [(v7.getD ((v1.getD v5.toNat (0, (0, 0))).2.1).toNat 0)]), v7, v8, v9, v10, v11, v12, v13, (wrap .i64 (v14 + 1)), v15)) else none) else none) else (if (((v1.getD v5.toNat (0, (0, 0))).1 == 10) || false) then (some ((0, 0), 0, v1, v2, v3, v4, (wrap .i64 (v5 + 1)), v6, v7, v8, v9, v10, v11, v12, v13, (wrap .i64 (v14 + 1)), v15)) else (if (((v1.getD v5.toNat (0, (0, 0))).1 == 9) || false) then ((dC n v1 v2 v3 v4 v5 v6 v7 v8 v9 v10 v11 v12 v13 v14).bind fun y21 => ((dC n y21.2.1 y21.2.2.1 y21.2.2.2.1 y21.2.2.2.2.1 y21.2.2.2.2.2.1 y21.2.2.2.2.2.2.1 y21.2.2.2.2.2.2.2.1 y21.2.2.2.2.2.2.2.2.1 y21.2.2.2.2.2.2.2.2.2.1 y21.2.2.2.2.2.2.2.2.2.2.1 y21.2.2.2.2.2.2.2.2.2.2.2.1 y21.2.2.2.2.2.2.2.2.2.2.2.2.1 y21.2.2.2.2.2.2.2.2.2.2.2.2.2.1 y21.2.2.2.2.2.2.2.2.2.2.2.2.2.2).bind fun y22 => (if (decide ((y22.2.2.2.2.2.2.1.length + 1) * 8 ≤ 140737488355328) && decide (1 ≤ 8)) then (some ((0, 0), 0, y22.2.1, y22.2.2.1, y22.2.2.2.1, y22.2.2.2.2.1, (wrap .i64 (v5 + 1)), (y22.2.2.2.2.2.2.1 ++ [(bits .or .i64 y21.1 y22.1)]), y22.2.2.2.2.2.2.2.1, y22.2.2.2.2.2.2.2.2.1, y22.2.2.2.2.2.2.2.2.2.1, y22.2.2.2.2.2.2.2.2.2.2.1, y22.2.2.2.2.2.2.2.2.2.2.2.1, y22.2.2.2.2.2.2.2.2.2.2.2.2.1, y22.2.2.2.2.2.2.2.2.2.2.2.2.2.1, (wrap .i64 (y22.2.2.2.2.2.2.2.2.2.2.2.2.2.2 + 1)), v15)) else none))) else (if (((v1.getD v5.toNat (0, (0, 0))).1 == 8) || false) then ((dC n v1 v2 v3 v4 v5 v6 v7 v8 v9 v10 v11 v12 v13 v14).bind fun y23 => ((dC n y23.2.1 y23.2.2.1 y23.2.2.2.1 y23.2.2.2.2.1 y23.2.2.2.2.2.1 y23.2.2.2.2.2.2.1 y23.2.2.2.2.2.2.2.1 y23.2.2.2.2.2.2.2.2.1 y23.2.2.2.2.2.2.2.2.2.1 y23.2.2.2.2.2.2.2.2.2.2.1 y23.2.2.2.2.2.2.2.2.2.2.2.1 y23.2.2.2.2.2.2.2.2.2.2.2.2.1 y23.2.2.2.2.2.2.2.2.2.2.2.2.2.1 y23.2.2.2.2.2.2.2.2.2.2.2.2.2.2).bind fun y24 => (if (decide ((y24.2.2.2.2.2.2.1.length + 1) * 8 ≤ 140737488355328) && decide (1 ≤ 8)) then (some ((0, 0), 0, y24.2.1, y24.2.2.1, y24.2.2.2.1, y24.2.2.2.2.1, (wrap .i64 (v5 + 1)), (y24.2.2.2.2.2.2.1 ++ [(bits .and .i64 y23.1 y24.1)]), y24.2.2.2.2.2.2.2.1, y24.2.2.2.2.2.2.2.2.1, y24.2.2.2.2.2.2.2.2.2.1, y24.2.2.2.2.2.2.2.2.2.2.1, y24.2.2.2.2.2.2.2.2.2.2.2.1, y24.2.2.2.2.2.2.2.2.2.2.2.2.1, y24.2.2.2.2.2.2.2.2.2.2.2.2.2.1, (wrap .i64 (y24.2.2.2.2.2.2.2.2.2.2.2.2.2.2 + 1)), v15)) else none))) else (if (((v1.getD v5.toNat (0, (0, 0))).1 == 7) || false) then ((dC n v1 v2 v3 v4 v5 v6 v7 v8 v9 v10 v11 v12 v13 v14).bind fun y25 => ((jU n y25.1).bind fun y26 => (if (decide ((y25.2.2.2.2.2.2.1.length + 1) * 8 ≤ 140737488355328) && decide (1 ≤ 8)) then (some ((0, 0), 0, y25.2.1, y25.2.2.1, y25.2.2.2.1, y25.2.2.2.2.1, (wrap .i64 (v5 + 1)), (y25.2.2.2.2.2.2.1 ++ [y26]), y25.2.2.2.2.2.2.2.1, y25.2.2.2.2.2.2.2.2.1, y25.2.2.2.2.2.2.2.2.2.1, y25.2.2.2.2.2.2.2.2.2.2.1, y25.2.2.2.2.2.2.2.2.2.2.2.1, y25.2.2.2.2.2.2.2.2.2.2.2.2.1, y25.2.2.2.2.2.2.2.2.2.2.2.2.2.1, (wrap .i64 (y25.2.2.2.2.2.2.2.2.2.2.2.2.2.2 + 1)), v15)) else none))) else (if (((v1.getD v5.toNat (0, (0, 0))).1 == 6) || false) then ((dC n v1 v2 v3 v4 v5 v6 v7 v8 v9 v10 v11 v12 v13 v14).bind fun y27 => ((lz n y27.1).bind fun y28 => (if (decide ((y27.2.2.2.2.2.2.1.length + 1) * 8 ≤ 140737488355328) && decide (1 ≤ 8)) then (some ((0, 0), 0, y27.2.1, y27.2.2.1, y27.2.2.2.1, y27.2.2.2.2.1, (wrap .i64 (v5 + 1)), (y27.2.2.2.2.2.2.1 ++ [y28]), y27.2.2.2.2.2.2.2.1, y27.2.2.2.2.2.2.2.2.1, y27.2.2.2.2.2.2.2.2.2.1, y27.2.2.2.2.2.2.2.2.2.2.1, y27.2.2.2.2.2.2.2.2.2.2.2.1, y27.2.2.2.2.2.2.2.2.2.2.2.2.1, y27.2.2.2.2.2.2.2.2.2.2.2.2.2.1, (wrap .i64 (y27.2.2.2.2.2.2.2.2.2.2.2.2.2.2 + 1)), v15)) else none))) else (if (((v1.getD v5.toNat (0, (0, 0))).1 == 5) || false) then ((dC n v1 v2 v3 v4 v5 v6 v7 v8 v9 v10 v11 v12 v13 v14).bind fun y29 => ((dC n y29.2.1 y29.2.2.1 y29.2.2.2.1 y29.2.2.2.2.1 y29.2.2.2.2.2.1 y29.2.2.2.2.2.2.1 y29.2.2.2.2.2.2.2.1 y29.2.2.2.2.2.2.2.2.1 y29.2.2.2.2.2.2.2.2.2.1 y29.2.2.2.2.2.2.2.2.2.2.1 y29.2.2.2.2.2.2.2.2.2.2.2.1 y29.2.2.2.2.2.2.2.2.2.2.2.2.1 y29.2.2.2.2.2.2.2.2.2.2.2.2.2.1 y29.2.2.2.2.2.2.2.2.2.2.2.2.2.2).bind fun y30 => ((dA n ((v1.getD v5.toNat (0, (0, 0))).2.1) y30.1 y29.1).bind fun y31 => ((fu n y31.2).bind fun y32 => (if (decide ((y30.2.2.2.2.2.2.1.length + 1) * 8 ≤ 140737488355328) && decide (1 ≤ 8)) then (some ((0, 0), 0, y30.2.1, y30.2.2.1, y30.2.2.2.1, y30.2.2.2.2.1, (wrap .i64 (v5 + 1)), (y30.2.2.2.2.2.2.1 ++ [y31.1]), y30.2.2.2.2.2.2.2.1, y30.2.2.2.2.2.2.2.2.1, y30.2.2.2.2.2.2.2.2.2.1, y30.2.2.2.2.2.2.2.2.2.2.1, y30.2.2.2.2.2.2.2.2.2.2.2.1, y30.2.2.2.2.2.2.2.2.2.2.2.2.1, (wrap .i64 (y30.2.2.2.2.2.2.2.2.2.2.2.2.2.1 + y32)), (wrap .i64 (y30.2.2.2.2.2.2.2.2.2.2.2.2.2.2 + 1)), v15)) else none))))) else (if (((v1.getD v5.toNat (0, (0, 0))).1 == 4) || false) then ((dC n v1 v2 v3 v4 v5 v6 v7 v8 v9 v10 v11 v12 v13 v14).bind fun y33 => ((dC n y33.2.1 y33.2.2.1 y33.2.2.2.1 y33.2.2.2.2.1 y33.2.2.2.2.2.1 y33.2.2.2.2.2.2.1 y33.2.2.2.2.2.2.2.1 y33.2.2.2.2.2.2.2.2.1 y33.2.2.2.2.2.2.2.2.2.1 y33.2.2.2.2.2.2.2.2.2.2.1 y33.2.2.2.2.2.2.2.2.2.2.2.1 y33.2.2.2.2.2.2.2.2.2.2.2.2.1 y33.2.2.2.2.2.2.2.2.2.2.2.2.2.1 y33.2.2.2.2.2.2.2.2.2.2.2.2.2.2).bind fun y34 => (if (decide ((y34.2.2.2.2.2.2.1.length + 1) * 8 ≤ 140737488355328) && decide (1 ≤ 8)) then (if (decide (((y34.2.2.2.2.2.2.1 ++ [y33.1]).length + 1) * 8 ≤ 140737488355328) && decide (1 ≤ 8)) then (some ((0, 0), 0, y34.2.1, y34.2.2.1, y34.2.2.2.1, y34.2.2.2.2.1, (wrap .i64 (v5 + 1)), ((y34.2.2.2.2.2.2.1 ++ [y33.1]) ++ [y34.1]), y34.2.2.2.2.2.2.2.1, y34.2.2.2.2.2.2.2.2.1, y34.2.2.2.2.2.2.2.2.2.1, y34.2.2.2.2.2.2.2.2.2.2.1, y34.2.2.2.2.2.2.2.2.2.2.2.1, y34.2.2.2.2.2.2.2.2.2.2.2.2.1, y34.2.2.2.2.2.2.2.2.2.2.2.2.2.1, (wrap .i64 (y34.2.2.2.2.2.2.2.2.2.2.2.2.2.2 + 1)), v15)) else none) else none))) else (if (((v1.getD v5.toNat (0, (0, 0))).1 == 3) || false) then (if (decide (0 ≤ (wrap .i64 ((v6.length : Int) - 1))) && decide ((wrap .i64 ((v6.length : Int) - 1)) < (v6.length : Int))) then (if (decide ((v6.length + 1) * 8 ≤ 140737488355328) && decide (1 ≤ 8)) then (some ((0, 0), 0, v1, v2, v3, v4, (wrap .i64 (v5 + 1)), (v6 ++ [(v6.getD ((wrap .i64 ((v6.length : Int) - 1))).toNat 0)]), v7, v8, v9, v10, v11, v12, v13, (wrap .i64 (v14 + 1)), v15)) else none) else none) else (if (((v1.getD v5.toNat (0, (0, 0))).1 == 2) || false) then ((dC n v1 v2 v3 v4 v5 v6 v7 v8 v9 v10 v11 v12 v13 v14).bind fun y35 => (some ((0, 0), 0, y35.2.1, y35.2.2.1, y35.2.2.2.1, y35.2.2.2.2.1, (wrap .i64 (v5 + 1)), y35.2.2.2.2.2.2.1, y35.2.2.2.2.2.2.2.1, y35.2.2.2.2.2.2.2.2.1, y35.2.2.2.2.2.2.2.2.2.1, y35.2.2.2.2.2.2.2.2.2.2.1, y35.2.2.2.2.2.2.2.2.2.2.2.1, y35.2.2.2.2.2.2.2.2.2.2.2.2.1, y35.2.2.2.2.2.2.2.2.2.2.2.2.2.1, (wrap .i64 (y35.2.2.2.2.2.2.2.2.2.2.2.2.2.2 + 1)), v15))) else (if (((v1.getD v5.toNat (0, (0, 0))).1 == 1) || false) then (if (decide ((v6.length + 1) * 8 ≤ 140737488355328) && decide (1 ≤ 8)) then (some ((0, 0), 0, v1, v2, v3, v4, (wrap .i64 (v5 + 1)), (v6 ++ [(v1.getD v5.toNat (0, (0, 0))).2.1]), v7, v8, v9, v10, v11, v12, v13, (wrap .i64 (v14 + 1)), v15)) else none) else none))))))))))))))))))))))))) else none))
def zv : FS := ⟨⟨[.obj 0, .obj 1], [dP, [.val kg]]⟩, ⟨[.val kO, .val cL], [dP, [.val kg]]⟩, C9, fun y => ((U_ v_) y, (de (di (U_ v_))) y.2.2, (y.2.2.2.2.2.2.2.2.2.2.2.2.2.2.2.2, ()), ()), fun (o : (((Int × Int) × Int × Unit) × (sn × ((List (List Int)) × Unit) × Unit))) => (J_ j_) o.1 ((fD (sk (J_ j_))) o.2.1 o.2.2.1.1), fun (x : (Unit × (sn × ((List (List Int)) × Unit) × Unit))) => db n x.2.1.1 x.2.1.2.1 x.2.1.2.2.1 x.2.1.2.2.2.1 x.2.1.2.2.2.2.1 x.2.1.2.2.2.2.2.1 x.2.1.2.2.2.2.2.2.1 x.2.1.2.2.2.2.2.2.2.1 x.2.1.2.2.2.2.2.2.2.2.1 x.2.1.2.2.2.2.2.2.2.2.2.1 x.2.1.2.2.2.2.2.2.2.2.2.2.1 x.2.1.2.2.2.2.2.2.2.2.2.2.2.1 x.2.1.2.2.2.2.2.2.2.2.2.2.2.2.1 x.2.1.2.2.2.2.2.2.2.2.2.2.2.2.2.1 x.2.2.1.1⟩
theorem Er : dq (DE n) 14 43 0 (zv n) := fun x => by kernel_rfl
def DF : Cx := (Cx.bare (DE n)).addSpec 43 (zv n)
theorem F6 : Good (DF n) := Good.fn (F5 n) 14 0 (Er n) (fun _ => rfl) rfl
def fv (n : Nat) (v1 : (List Int)) (v2 : cS) (v3 v4 : (List Int)) (v5 : Bool) (v6 : Int) (v7 v8 v9 v10 : (List Int)) (v11 : Int) (v12 : (List Int)) (v13 v14 v15 : Int) : Option tg := if (!(decide ((v2.length : Int) > 0))) then (some (15, v2, v3, v4, v5, v6, v7, v8, v9, v10, v11, v12, v13, v14, v15)) else (if v5 then (some (16, v2, v3, v4, v5, v6, v7, v8, v9, v10, v11, v12, v13, v14, v15)) else (some (0, v2, v3, v4, true, 0, [], [0, 0, 0, 0, 0, 0, 0, 0], v1, [0, 0, 0, 0, 0, 0, 0, 0, 0, 0, 0, 0, 0, 0, 0, 0], 0, [], 0, 0, 0)))
def i8 : FS := ⟨⟨[.obj 0, .val sm], [dP]⟩, ⟨[.val cL], [dP]⟩, tg, fun y => ((y.1, ()), (de (di (U_ u_))) y.2, ()), fun (o : (jk × jl)) => (o.1.1, ((de (di (U_ k_))) o.2.1)), fun (x : (lV × jl)) => fv n x.1.1 x.2.1.1 x.2.1.2.1 x.2.1.2.2.1 x.2.1.2.2.2.1 x.2.1.2.2.2.2.1 x.2.1.2.2.2.2.2.1 x.2.1.2.2.2.2.2.2.1 x.2.1.2.2.2.2.2.2.2.1 x.2.1.2.2.2.2.2.2.2.2.1 x.2.1.2.2.2.2.2.2.2.2.2.1 x.2.1.2.2.2.2.2.2.2.2.2.2.1 x.2.1.2.2.2.2.2.2.2.2.2.2.2.1 x.2.1.2.2.2.2.2.2.2.2.2.2.2.2.1 x.2.1.2.2.2.2.2.2.2.2.2.2.2.2.2.1⟩
theorem oM : dq (DF n) 14 39 0 (i8 n) := fun x => by kernel_rfl
def DG : Cx := (Cx.bare (DF n)).addSpec 39 (i8 n)
theorem F7 : Good (DG n) := Good.fn (F6 n) 14 0 (oM n) (fun _ => rfl) rfl
def sH (n : Nat) (F : gJ → Option (gJ)) (v28 v29 v30 v31 v32 v33 v34 v35 v36 : Int) (v37 v38 : (List Int)) (v39 : cS) (v40 v41 : (List Int)) (v42 : Bool) (v43 : Int) (v44 v45 v46 v47 : (List Int)) (v48 : Int) (v49 : (List Int)) (v50 v51 v52 : Int) : Option (gJ) := if (v35 == 0) then (if (decide (v34 < 5)) then (if (decide (0 ≤ (wrap .i64 (v34 + 1))) && decide ((wrap .i64 (v34 + 1)) < 6)) then (F (v28, v29, v30, v31, v32, v33, (wrap .i64 (v34 + 1)), (v38.getD ((wrap .i64 (v34 + 1))).toNat 0), v36, v37, v38, v39, v40, v41, v42, v43, v44, v45, v46, v47, v48, v49, v50, v51, v52)) else none) else (some (v28, v29, v30, v31, v32, v33, v34, v35, v36, v37, v38, v39, v40, v41, v42, v43, v44, v45, v46, v47, v48, v49, v50, v51, v52))) else (some (v28, v29, v30, v31, v32, v33, v34, v35, v36, v37, v38, v39, v40, v41, v42, v43, v44, v45, v46, v47, v48, v49, v50, v51, v52))
def ey : gJ → Option (gJ) := it (fun F => (gD (eq (ed (C_ q_)))) (sH n F)) n
def vO : Loop := ⟨⟨dn 52 0 [(0, .obj 0), (2, .obj 1)], [i1, [.val (.arr 6 cL)], dP]⟩, [(.exit 0, ⟨dn 52 0 [], [i1, [.val (.arr 6 cL)], dP]⟩)], gJ, fun x => ((), (de (U_ v_)) x, (x.2.2.2.2.2.2.2.2.2.2.1, ()), (de (di (U_ u_))) x.2.2.2.2.2.2.2.2.2.2.2, ()), fun (x : tj) => (fD (J_ j_)) x.2.1 ((x.2.2.1.1, ((de (di (U_ k_))) x.2.2.2.1))), gJ, fun y => ((), (de (U_ v_)) y, (y.2.2.2.2.2.2.2.2.2.2.1, ()), (de (di (U_ u_))) y.2.2.2.2.2.2.2.2.2.2.2, ()), fun (o : tj) => (fD (J_ j_)) o.2.1 ((o.2.2.1.1, ((de (di (U_ k_))) o.2.2.2.1))), ey n⟩
def sI (v1 : (List Int)) (v2 v3 v4 v5 v6 v7 v8 v9 v10 : Int) (v11 : (List Int)) (v12 : (List (List Int))) (v13 : cS) (v14 v15 : (List Int)) (v16 : Bool) (v17 : Int) (v18 v19 v20 v21 : (List Int)) (v22 : Int) (v23 : (List Int)) (v24 v25 v26 : Int) : Option C5 := if (v8 == 5) then (some ((0, (0, false)), 16, v2, v3, v4, v5, v6, v7, v8, v9, v10, v11, v12, v13, v14, v15, v16, v17, v18, v19, v20, v21, v22, v23, v24, v25, v26)) else (if (v8 == 2) then ((db n v13 v14 v15 v16 v17 v18 v19 v20 v21 v22 v23 v24 v25 v26 v12).bind fun y27 => (if (y27.1.1 == 1) then ((ey n (v2, v3, v4, v5, v6, v7, v8, v9, (wrap .i64 (v10 + 1)), v11, [v5, v6, 1, v7, v5, 1], y27.2.2.1, y27.2.2.2.1, y27.2.2.2.2.1, y27.2.2.2.2.2.1, y27.2.2.2.2.2.2.1, y27.2.2.2.2.2.2.2.1, y27.2.2.2.2.2.2.2.2.1, y27.2.2.2.2.2.2.2.2.2.1, y27.2.2.2.2.2.2.2.2.2.2.1, y27.2.2.2.2.2.2.2.2.2.2.2.1, y27.2.2.2.2.2.2.2.2.2.2.2.2.1, y27.2.2.2.2.2.2.2.2.2.2.2.2.2.1, y27.2.2.2.2.2.2.2.2.2.2.2.2.2.2.1, y27.2.2.2.2.2.2.2.2.2.2.2.2.2.2.2.1)).bind fun y28 => (some ((2, (y27.1.2, (y28.2.2.2.2.2.2.1 == 5))), 0, y28.1, y28.2.1, y28.2.2.1, y28.2.2.2.1, y28.2.2.2.2.1, y28.2.2.2.2.2.1, y28.2.2.2.2.2.2.1, y28.2.2.2.2.2.2.2.1, y28.2.2.2.2.2.2.2.2.1, y28.2.2.2.2.2.2.2.2.2.1, y27.2.2.2.2.2.2.2.2.2.2.2.2.2.2.2.2, y28.2.2.2.2.2.2.2.2.2.2.2.1, y28.2.2.2.2.2.2.2.2.2.2.2.2.1, y28.2.2.2.2.2.2.2.2.2.2.2.2.2.1, y28.2.2.2.2.2.2.2.2.2.2.2.2.2.2.1, y28.2.2.2.2.2.2.2.2.2.2.2.2.2.2.2.1, y28.2.2.2.2.2.2.2.2.2.2.2.2.2.2.2.2.1, y28.2.2.2.2.2.2.2.2.2.2.2.2.2.2.2.2.2.1, y28.2.2.2.2.2.2.2.2.2.2.2.2.2.2.2.2.2.2.1, y28.2.2.2.2.2.2.2.2.2.2.2.2.2.2.2.2.2.2.2.1, y28.2.2.2.2.2.2.2.2.2.2.2.2.2.2.2.2.2.2.2.2.1, y28.2.2.2.2.2.2.2.2.2.2.2.2.2.2.2.2.2.2.2.2.2.1, y28.2.2.2.2.2.2.2.2.2.2.2.2.2.2.2.2.2.2.2.2.2.2.1, y28.2.2.2.2.2.2.2.2.2.2.2.2.2.2.2.2.2.2.2.2.2.2.2.1, y28.2.2.2.2.2.2.2.2.2.2.2.2.2.2.2.2.2.2.2.2.2.2.2.2))) else (if (y27.1.1 == 2) then ((ey n (v2, v3, v4, v5, v6, v7, v8, v9, (wrap .i64 (v10 + 1)), v11, [v5, v6, 1, v7, v5, 1], y27.2.2.1, y27.2.2.2.1, y27.2.2.2.2.1, y27.2.2.2.2.2.1, y27.2.2.2.2.2.2.1, y27.2.2.2.2.2.2.2.1, y27.2.2.2.2.2.2.2.2.1, y27.2.2.2.2.2.2.2.2.2.1, y27.2.2.2.2.2.2.2.2.2.2.1, y27.2.2.2.2.2.2.2.2.2.2.2.1, y27.2.2.2.2.2.2.2.2.2.2.2.2.1, y27.2.2.2.2.2.2.2.2.2.2.2.2.2.1, y27.2.2.2.2.2.2.2.2.2.2.2.2.2.2.1, y27.2.2.2.2.2.2.2.2.2.2.2.2.2.2.2.1)).bind fun y29 => (some ((3, (y27.1.2, (y29.2.2.2.2.2.2.1 == 5))), 0, y29.1, y29.2.1, y29.2.2.1, y29.2.2.2.1, y29.2.2.2.2.1, y29.2.2.2.2.2.1, y29.2.2.2.2.2.2.1, y29.2.2.2.2.2.2.2.1, y29.2.2.2.2.2.2.2.2.1, y29.2.2.2.2.2.2.2.2.2.1, y27.2.2.2.2.2.2.2.2.2.2.2.2.2.2.2.2, y29.2.2.2.2.2.2.2.2.2.2.2.1, y29.2.2.2.2.2.2.2.2.2.2.2.2.1, y29.2.2.2.2.2.2.2.2.2.2.2.2.2.1, y29.2.2.2.2.2.2.2.2.2.2.2.2.2.2.1, y29.2.2.2.2.2.2.2.2.2.2.2.2.2.2.2.1, y29.2.2.2.2.2.2.2.2.2.2.2.2.2.2.2.2.1, y29.2.2.2.2.2.2.2.2.2.2.2.2.2.2.2.2.2.1, y29.2.2.2.2.2.2.2.2.2.2.2.2.2.2.2.2.2.2.1, y29.2.2.2.2.2.2.2.2.2.2.2.2.2.2.2.2.2.2.2.1, y29.2.2.2.2.2.2.2.2.2.2.2.2.2.2.2.2.2.2.2.2.1, y29.2.2.2.2.2.2.2.2.2.2.2.2.2.2.2.2.2.2.2.2.2.1, y29.2.2.2.2.2.2.2.2.2.2.2.2.2.2.2.2.2.2.2.2.2.2.1, y29.2.2.2.2.2.2.2.2.2.2.2.2.2.2.2.2.2.2.2.2.2.2.2.1, y29.2.2.2.2.2.2.2.2.2.2.2.2.2.2.2.2.2.2.2.2.2.2.2.2))) else (if (y27.1.1 == 3) then ((ey n (v2, v3, v4, v5, v6, v7, v8, 0, (wrap .i64 (v10 + 1)), v11, [v5, v6, 1, v7, v5, 1], y27.2.2.1, y27.2.2.2.1, y27.2.2.2.2.1, y27.2.2.2.2.2.1, y27.2.2.2.2.2.2.1, y27.2.2.2.2.2.2.2.1, y27.2.2.2.2.2.2.2.2.1, y27.2.2.2.2.2.2.2.2.2.1, y27.2.2.2.2.2.2.2.2.2.2.1, y27.2.2.2.2.2.2.2.2.2.2.2.1, y27.2.2.2.2.2.2.2.2.2.2.2.2.1, y27.2.2.2.2.2.2.2.2.2.2.2.2.2.1, y27.2.2.2.2.2.2.2.2.2.2.2.2.2.2.1, y27.2.2.2.2.2.2.2.2.2.2.2.2.2.2.2.1)).bind fun y30 => (some ((0, (0, (y30.2.2.2.2.2.2.1 == 5))), 0, y30.1, y30.2.1, y30.2.2.1, y30.2.2.2.1, y30.2.2.2.2.1, y30.2.2.2.2.2.1, y30.2.2.2.2.2.2.1, y30.2.2.2.2.2.2.2.1, y30.2.2.2.2.2.2.2.2.1, y30.2.2.2.2.2.2.2.2.2.1, y27.2.2.2.2.2.2.2.2.2.2.2.2.2.2.2.2, y30.2.2.2.2.2.2.2.2.2.2.2.1, y30.2.2.2.2.2.2.2.2.2.2.2.2.1, y30.2.2.2.2.2.2.2.2.2.2.2.2.2.1, y30.2.2.2.2.2.2.2.2.2.2.2.2.2.2.1, y30.2.2.2.2.2.2.2.2.2.2.2.2.2.2.2.1, y30.2.2.2.2.2.2.2.2.2.2.2.2.2.2.2.2.1, y30.2.2.2.2.2.2.2.2.2.2.2.2.2.2.2.2.2.1, y30.2.2.2.2.2.2.2.2.2.2.2.2.2.2.2.2.2.2.1, y30.2.2.2.2.2.2.2.2.2.2.2.2.2.2.2.2.2.2.2.1, y30.2.2.2.2.2.2.2.2.2.2.2.2.2.2.2.2.2.2.2.2.1, y30.2.2.2.2.2.2.2.2.2.2.2.2.2.2.2.2.2.2.2.2.2.1, y30.2.2.2.2.2.2.2.2.2.2.2.2.2.2.2.2.2.2.2.2.2.2.1, y30.2.2.2.2.2.2.2.2.2.2.2.2.2.2.2.2.2.2.2.2.2.2.2.1, y30.2.2.2.2.2.2.2.2.2.2.2.2.2.2.2.2.2.2.2.2.2.2.2.2))) else ((ey n (v2, v3, v4, v5, v6, v7, v8, v9, (wrap .i64 (v10 + 1)), v11, [v5, v6, 1, v7, v5, 1], y27.2.2.1, y27.2.2.2.1, y27.2.2.2.2.1, y27.2.2.2.2.2.1, y27.2.2.2.2.2.2.1, y27.2.2.2.2.2.2.2.1, y27.2.2.2.2.2.2.2.2.1, y27.2.2.2.2.2.2.2.2.2.1, y27.2.2.2.2.2.2.2.2.2.2.1, y27.2.2.2.2.2.2.2.2.2.2.2.1, y27.2.2.2.2.2.2.2.2.2.2.2.2.1, y27.2.2.2.2.2.2.2.2.2.2.2.2.2.1, y27.2.2.2.2.2.2.2.2.2.2.2.2.2.2.1, y27.2.2.2.2.2.2.2.2.2.2.2.2.2.2.2.1)).bind fun y31 => (some ((0, (0, (y31.2.2.2.2.2.2.1 == 5))), 0, y31.1, y31.2.1, y31.2.2.1, y31.2.2.2.1, y31.2.2.2.2.1, y31.2.2.2.2.2.1, y31.2.2.2.2.2.2.1, y31.2.2.2.2.2.2.2.1, y31.2.2.2.2.2.2.2.2.1, y31.2.2.2.2.2.2.2.2.2.1, y27.2.2.2.2.2.2.2.2.2.2.2.2.2.2.2.2, y31.2.2.2.2.2.2.2.2.2.2.2.1, y31.2.2.2.2.2.2.2.2.2.2.2.2.1, y31.2.2.2.2.2.2.2.2.2.2.2.2.2.1, y31.2.2.2.2.2.2.2.2.2.2.2.2.2.2.1, y31.2.2.2.2.2.2.2.2.2.2.2.2.2.2.2.1, y31.2.2.2.2.2.2.2.2.2.2.2.2.2.2.2.2.1, y31.2.2.2.2.2.2.2.2.2.2.2.2.2.2.2.2.2.1, y31.2.2.2.2.2.2.2.2.2.2.2.2.2.2.2.2.2.2.1, y31.2.2.2.2.2.2.2.2.2.2.2.2.2.2.2.2.2.2.2.1, y31.2.2.2.2.2.2.2.2.2.2.2.2.2.2.2.2.2.2.2.2.1, y31.2.2.2.2.2.2.2.2.2.2.2.2.2.2.2.2.2.2.2.2.2.1, y31.2.2.2.2.2.2.2.2.2.2.2.2.2.2.2.2.2.2.2.2.2.2.1, y31.2.2.2.2.2.2.2.2.2.2.2.2.2.2.2.2.2.2.2.2.2.2.2.1, y31.2.2.2.2.2.2.2.2.2.2.2.2.2.2.2.2.2.2.2.2.2.2.2.2))))))) else (if (decide ((wrap .i64 (v9 - 1)) > 0)) then ((ey n (v2, v3, v4, v5, v6, v7, v8, (wrap .i64 (v9 - 1)), (wrap .i64 (v10 + 1)), v11, [v5, v6, 1, v7, v5, 1], v13, v14, v15, v16, v17, v18, v19, v20, v21, v22, v23, v24, v25, v26)).bind fun y32 => (some ((0, (0, (y32.2.2.2.2.2.2.1 == 5))), 0, y32.1, y32.2.1, y32.2.2.1, y32.2.2.2.1, y32.2.2.2.2.1, y32.2.2.2.2.2.1, y32.2.2.2.2.2.2.1, y32.2.2.2.2.2.2.2.1, y32.2.2.2.2.2.2.2.2.1, y32.2.2.2.2.2.2.2.2.2.1, v12, y32.2.2.2.2.2.2.2.2.2.2.2.1, y32.2.2.2.2.2.2.2.2.2.2.2.2.1, y32.2.2.2.2.2.2.2.2.2.2.2.2.2.1, y32.2.2.2.2.2.2.2.2.2.2.2.2.2.2.1, y32.2.2.2.2.2.2.2.2.2.2.2.2.2.2.2.1, y32.2.2.2.2.2.2.2.2.2.2.2.2.2.2.2.2.1, y32.2.2.2.2.2.2.2.2.2.2.2.2.2.2.2.2.2.1, y32.2.2.2.2.2.2.2.2.2.2.2.2.2.2.2.2.2.2.1, y32.2.2.2.2.2.2.2.2.2.2.2.2.2.2.2.2.2.2.2.1, y32.2.2.2.2.2.2.2.2.2.2.2.2.2.2.2.2.2.2.2.2.1, y32.2.2.2.2.2.2.2.2.2.2.2.2.2.2.2.2.2.2.2.2.2.1, y32.2.2.2.2.2.2.2.2.2.2.2.2.2.2.2.2.2.2.2.2.2.2.1, y32.2.2.2.2.2.2.2.2.2.2.2.2.2.2.2.2.2.2.2.2.2.2.2.1, y32.2.2.2.2.2.2.2.2.2.2.2.2.2.2.2.2.2.2.2.2.2.2.2.2))) else (if (v8 == 1) then ((fv n v1 v13 v14 v15 v16 v17 v18 v19 v20 v21 v22 v23 v24 v25 v26).bind fun y33 => ((ey n (v2, v3, v4, v5, v6, v7, v8, (wrap .i64 (v9 - 1)), (wrap .i64 (v10 + 1)), v1, [v5, v6, 1, v7, v5, 1], y33.2.1, y33.2.2.1, y33.2.2.2.1, y33.2.2.2.2.1, y33.2.2.2.2.2.1, y33.2.2.2.2.2.2.1, y33.2.2.2.2.2.2.2.1, y33.2.2.2.2.2.2.2.2.1, y33.2.2.2.2.2.2.2.2.2.1, y33.2.2.2.2.2.2.2.2.2.2.1, y33.2.2.2.2.2.2.2.2.2.2.2.1, y33.2.2.2.2.2.2.2.2.2.2.2.2.1, y33.2.2.2.2.2.2.2.2.2.2.2.2.2.1, y33.2.2.2.2.2.2.2.2.2.2.2.2.2.2)).bind fun y34 => (some ((1, (0, (y34.2.2.2.2.2.2.1 == 5))), 0, y34.1, y34.2.1, y34.2.2.1, y34.2.2.2.1, y34.2.2.2.2.1, y34.2.2.2.2.2.1, y34.2.2.2.2.2.2.1, y34.2.2.2.2.2.2.2.1, y34.2.2.2.2.2.2.2.2.1, y34.2.2.2.2.2.2.2.2.2.1, v12, y34.2.2.2.2.2.2.2.2.2.2.2.1, y34.2.2.2.2.2.2.2.2.2.2.2.2.1, y34.2.2.2.2.2.2.2.2.2.2.2.2.2.1, y34.2.2.2.2.2.2.2.2.2.2.2.2.2.2.1, y34.2.2.2.2.2.2.2.2.2.2.2.2.2.2.2.1, y34.2.2.2.2.2.2.2.2.2.2.2.2.2.2.2.2.1, y34.2.2.2.2.2.2.2.2.2.2.2.2.2.2.2.2.2.1, y34.2.2.2.2.2.2.2.2.2.2.2.2.2.2.2.2.2.2.1, y34.2.2.2.2.2.2.2.2.2.2.2.2.2.2.2.2.2.2.2.1, y34.2.2.2.2.2.2.2.2.2.2.2.2.2.2.2.2.2.2.2.2.1, y34.2.2.2.2.2.2.2.2.2.2.2.2.2.2.2.2.2.2.2.2.2.1, y34.2.2.2.2.2.2.2.2.2.2.2.2.2.2.2.2.2.2.2.2.2.2.1, y34.2.2.2.2.2.2.2.2.2.2.2.2.2.2.2.2.2.2.2.2.2.2.2.1, y34.2.2.2.2.2.2.2.2.2.2.2.2.2.2.2.2.2.2.2.2.2.2.2.2)))) else (if (v8 == 3) then ((ey n (v2, v3, v4, v5, v6, v7, v8, (wrap .i64 (v9 - 1)), (wrap .i64 (v10 + 1)), v11, [v5, v6, 1, v7, v5, 1], v13, v14, v15, v16, v17, v18, v19, v20, v21, v22, v23, v24, v25, v26)).bind fun y35 => (some ((4, (0, (y35.2.2.2.2.2.2.1 == 5))), 0, y35.1, y35.2.1, y35.2.2.1, y35.2.2.2.1, y35.2.2.2.2.1, y35.2.2.2.2.2.1, y35.2.2.2.2.2.2.1, y35.2.2.2.2.2.2.2.1, y35.2.2.2.2.2.2.2.2.1, y35.2.2.2.2.2.2.2.2.2.1, v12, y35.2.2.2.2.2.2.2.2.2.2.2.1, y35.2.2.2.2.2.2.2.2.2.2.2.2.1, y35.2.2.2.2.2.2.2.2.2.2.2.2.2.1, y35.2.2.2.2.2.2.2.2.2.2.2.2.2.2.1, y35.2.2.2.2.2.2.2.2.2.2.2.2.2.2.2.1, y35.2.2.2.2.2.2.2.2.2.2.2.2.2.2.2.2.1, y35.2.2.2.2.2.2.2.2.2.2.2.2.2.2.2.2.2.1, y35.2.2.2.2.2.2.2.2.2.2.2.2.2.2.2.2.2.2.1, y35.2.2.2.2.2.2.2.2.2.2.2.2.2.2.2.2.2.2.2.1, y35.2.2.2.2.2.2.2.2.2.2.2.2.2.2.2.2.2.2.2.2.1, y35.2.2.2.2.2.2.2.2.2.2.2.2.2.2.2.2.2.2.2.2.2.1, y35.2.2.2.2.2.2.2.2.2.2.2.2.2.2.2.2.2.2.2.2.2.2.1, y35.2.2.2.2.2.2.2.2.2.2.2.2.2.2.2.2.2.2.2.2.2.2.2.1, y35.2.2.2.2.2.2.2.2.2.2.2.2.2.2.2.2.2.2.2.2.2.2.2.2))) else ((ey n (v2, v3, v4, v5, v6, v7, v8, (wrap .i64 (v9 - 1)), (wrap .i64 (v10 + 1)), v11, [v5, v6, 1, v7, v5, 1], v13, v14, v15, v16, v17, v18, v19, v20, v21, v22, v23, v24, v25, v26)).bind fun y36 => (some ((0, (0, (y36.2.2.2.2.2.2.1 == 5))), 0, y36.1, y36.2.1, y36.2.2.1, y36.2.2.2.1, y36.2.2.2.2.1, y36.2.2.2.2.2.1, y36.2.2.2.2.2.2.1, y36.2.2.2.2.2.2.2.1, y36.2.2.2.2.2.2.2.2.1, y36.2.2.2.2.2.2.2.2.2.1, v12, y36.2.2.2.2.2.2.2.2.2.2.2.1, y36.2.2.2.2.2.2.2.2.2.2.2.2.1, y36.2.2.2.2.2.2.2.2.2.2.2.2.2.1, y36.2.2.2.2.2.2.2.2.2.2.2.2.2.2.1, y36.2.2.2.2.2.2.2.2.2.2.2.2.2.2.2.1, y36.2.2.2.2.2.2.2.2.2.2.2.2.2.2.2.2.1, y36.2.2.2.2.2.2.2.2.2.2.2.2.2.2.2.2.2.1, y36.2.2.2.2.2.2.2.2.2.2.2.2.2.2.2.2.2.2.1, y36.2.2.2.2.2.2.2.2.2.2.2.2.2.2.2.2.2.2.2.1, y36.2.2.2.2.2.2.2.2.2.2.2.2.2.2.2.2.2.2.2.2.1, y36.2.2.2.2.2.2.2.2.2.2.2.2.2.2.2.2.2.2.2.2.2.1, y36.2.2.2.2.2.2.2.2.2.2.2.2.2.2.2.2.2.2.2.2.2.2.1, y36.2.2.2.2.2.2.2.2.2.2.2.2.2.2.2.2.2.2.2.2.2.2.2.1, y36.2.2.2.2.2.2.2.2.2.2.2.2.2.2.2.2.2.2.2.2.2.2.2.2)))))))
def zw : FS := ⟨⟨[.obj 0, .obj 1, .val sm], [i1, [.val kg], dP]⟩, ⟨[.val (.pair cL (.pair cL .bool)), .val cL], [i1, [.val kg], dP]⟩, C5, fun y => ((U_ v_) y, (de (U_ v_)) y.2.2, (y.2.2.2.2.2.2.2.2.2.2.2.2.1, ()), (de (di (U_ u_))) y.2.2.2.2.2.2.2.2.2.2.2.2.2, ()), fun (o : (((Int × (Int × Bool)) × Int × Unit) × nG)) => (J_ j_) o.1 ((fD (J_ j_)) o.2.1 ((o.2.2.1.1, ((de (di (U_ k_))) o.2.2.2.1)))), fun (x : (lV × nG)) => sI n x.1.1 x.2.1.1 x.2.1.2.1 x.2.1.2.2.1 x.2.1.2.2.2.1 x.2.1.2.2.2.2.1 x.2.1.2.2.2.2.2.1 x.2.1.2.2.2.2.2.2.1 x.2.1.2.2.2.2.2.2.2.1 x.2.1.2.2.2.2.2.2.2.2.1 x.2.1.2.2.2.2.2.2.2.2.2.1 x.2.2.1.1 x.2.2.2.1.1 x.2.2.2.1.2.1 x.2.2.2.1.2.2.1 x.2.2.2.1.2.2.2.1 x.2.2.2.1.2.2.2.2.1 x.2.2.2.1.2.2.2.2.2.1 x.2.2.2.1.2.2.2.2.2.2.1 x.2.2.2.1.2.2.2.2.2.2.2.1 x.2.2.2.1.2.2.2.2.2.2.2.2.1 x.2.2.2.1.2.2.2.2.2.2.2.2.2.1 x.2.2.2.1.2.2.2.2.2.2.2.2.2.2.1 x.2.2.2.1.2.2.2.2.2.2.2.2.2.2.2.1 x.2.2.2.1.2.2.2.2.2.2.2.2.2.2.2.2.1 x.2.2.2.1.2.2.2.2.2.2.2.2.2.2.2.2.2.1⟩
theorem A8 : ∀ F x, dW (DG n) 14 24 0 1 (vO n) F x = (gD (eq (ed (C_ q_)))) (sH n F) x := fun F x => by kernel_rfl
def qW : Cx := Cx.addLoop (DG n) 24 1 (vO n)
theorem A9 : Good (qW n) := Good.loop (F7 n) 14 0 (by kernel_rfl) (A8 n) n (fun _ => rfl) (fun _ => rfl) (fun _ => rfl) rfl
theorem Es : dq (qW n) 14 9 0 (zw n) := fun x => by kernel_rfl
def DH : Cx := (Cx.bare (qW n)).addSpec 9 (zw n)
theorem F8 : Good (DH n) := Good.fn (A9 n) 14 0 (Es n) (fun _ => rfl) rfl
def f7 (n : Nat) (v1 v2 v3 v4 v5 v6 v7 v8 v9 : Int) (v10 : (List Int)) (v11 : cS) (v12 v13 : (List Int)) (v14 : Bool) (v15 : Int) (v16 v17 v18 v19 : (List Int)) (v20 : Int) (v21 : (List Int)) (v22 v23 v24 : Int) : Option Bool := some true
def iS : FS := ⟨⟨[.obj 0], [nE, dP]⟩, ⟨[.val .bool], []⟩, Bool, fun y => ((y, ()), ()), fun o => o.1.1, fun (x : (Unit × j9)) => f7 n x.2.1.1 x.2.1.2.1 x.2.1.2.2.1 x.2.1.2.2.2.1 x.2.1.2.2.2.2.1 x.2.1.2.2.2.2.2.1 x.2.1.2.2.2.2.2.2.1 x.2.1.2.2.2.2.2.2.2.1 x.2.1.2.2.2.2.2.2.2.2.1 x.2.1.2.2.2.2.2.2.2.2.2.1 x.2.2.1.1 x.2.2.1.2.1 x.2.2.1.2.2.1 x.2.2.1.2.2.2.1 x.2.2.1.2.2.2.2.1 x.2.2.1.2.2.2.2.2.1 x.2.2.1.2.2.2.2.2.2.1 x.2.2.1.2.2.2.2.2.2.2.1 x.2.2.1.2.2.2.2.2.2.2.2.1 x.2.2.1.2.2.2.2.2.2.2.2.2.1 x.2.2.1.2.2.2.2.2.2.2.2.2.2.1 x.2.2.1.2.2.2.2.2.2.2.2.2.2.2.1 x.2.2.1.2.2.2.2.2.2.2.2.2.2.2.2.1 x.2.2.1.2.2.2.2.2.2.2.2.2.2.2.2.2.1⟩
theorem nW : si (DH n) 25 0 (iS n) := fun x => by kernel_rfl
def DI : Cx := (Cx.bare (DH n)).addQ 25 (iS n)
theorem F9 : Good (DI n) := qx (F8 n) 0 (nW n) (fun _ => rfl) rfl rfl
def i9 (n : Nat) (v1 : cS) (v2 v3 : (List Int)) (v4 : Bool) (v5 : Int) (v6 v7 v8 v9 : (List Int)) (v10 : Int) (v11 : (List Int)) (v12 v13 v14 : Int) : Option Int := some v12
def iT : FS := ⟨⟨[.obj 0], [dP]⟩, ⟨[.val cL], []⟩, Int, fun y => ((y, ()), ()), fun o => o.1.1, fun (x : (Unit × jl)) => i9 n x.2.1.1 x.2.1.2.1 x.2.1.2.2.1 x.2.1.2.2.2.1 x.2.1.2.2.2.2.1 x.2.1.2.2.2.2.2.1 x.2.1.2.2.2.2.2.2.1 x.2.1.2.2.2.2.2.2.2.1 x.2.1.2.2.2.2.2.2.2.2.1 x.2.1.2.2.2.2.2.2.2.2.2.1 x.2.1.2.2.2.2.2.2.2.2.2.2.1 x.2.1.2.2.2.2.2.2.2.2.2.2.2.1 x.2.1.2.2.2.2.2.2.2.2.2.2.2.2.1 x.2.1.2.2.2.2.2.2.2.2.2.2.2.2.2.1⟩
theorem nX : si (DI n) 27 0 (iT n) := fun x => by kernel_rfl
def DJ : Cx := (Cx.bare (DI n)).addQ 27 (iT n)
theorem Ga : Good (DJ n) := qx (F9 n) 0 (nX n) (fun _ => rfl) rfl rfl
def eu (v1 v2 v3 v4 v5 v6 v7 v8 v9 : Int) (v10 : (List Int)) (v11 : cS) (v12 v13 : (List Int)) (v14 : Bool) (v15 : Int) (v16 v17 v18 v19 : (List Int)) (v20 : Int) (v21 : (List Int)) (v22 v23 v24 : Int) : Option Int := (f7 n v1 v2 v3 v4 v5 v6 v7 v8 v9 v10 v11 v12 v13 v14 v15 v16 v17 v18 v19 v20 v21 v22 v23 v24).bind fun y25 => (if (!y25) then (some 0) else (if (decide (v7 < 2)) then (some 0) else ((i9 n v11 v12 v13 v14 v15 v16 v17 v18 v19 v20 v21 v22 v23 v24).bind fun y26 => (some y26))))
def ja : FS := ⟨⟨[.obj 0], [nE, dP]⟩, ⟨[.val cL], []⟩, Int, fun y => ((y, ()), ()), fun o => o.1.1, fun (x : (Unit × j9)) => eu n x.2.1.1 x.2.1.2.1 x.2.1.2.2.1 x.2.1.2.2.2.1 x.2.1.2.2.2.2.1 x.2.1.2.2.2.2.2.1 x.2.1.2.2.2.2.2.2.1 x.2.1.2.2.2.2.2.2.2.1 x.2.1.2.2.2.2.2.2.2.2.1 x.2.1.2.2.2.2.2.2.2.2.2.1 x.2.2.1.1 x.2.2.1.2.1 x.2.2.1.2.2.1 x.2.2.1.2.2.2.1 x.2.2.1.2.2.2.2.1 x.2.2.1.2.2.2.2.2.1 x.2.2.1.2.2.2.2.2.2.1 x.2.2.1.2.2.2.2.2.2.2.1 x.2.2.1.2.2.2.2.2.2.2.2.1 x.2.2.1.2.2.2.2.2.2.2.2.2.1 x.2.2.1.2.2.2.2.2.2.2.2.2.2.1 x.2.2.1.2.2.2.2.2.2.2.2.2.2.2.1 x.2.2.1.2.2.2.2.2.2.2.2.2.2.2.2.1 x.2.2.1.2.2.2.2.2.2.2.2.2.2.2.2.2.1⟩
theorem oN : si (DJ n) 10 0 (ja n) := fun x => by kernel_rfl
def DK : Cx := (Cx.bare (DJ n)).addQ 10 (ja n)
theorem Gb : Good (DK n) := qx (Ga n) 0 (oN n) (fun _ => rfl) rfl rfl
def gw (n : Nat) (F : (Int × Int × (List Int) × Int × Int) → Option (Int)) (v1 v2 : Int) (v3 : (List Int)) (v4 v5 : Int) : Option (Int) := if (decide (v5 < v4)) then (if (decide (0 ≤ v5) && decide (v5 < (v3.length : Int))) then (if decide (v5 < 0) then none else (if ((bits .and .u64 ((IntKind.wrap .u64 v1).fdiv (2 ^ (min v5.toNat 64))) 1) == 1) then (F (v1, (if (v3.getD v5.toNat 0) > v2 then (v3.getD v5.toNat 0) else v2), v3, v4, (wrap .i64 (v5 + 1)))) else (F (v1, v2, v3, v4, (wrap .i64 (v5 + 1)))))) else none) else (some v2)
def hZ : (Int × Int × (List Int) × Int × Int) → Option (Int) := it (fun F => (ed (C_ q_)) (gw n F)) n
def kS : Loop := ⟨⟨dn 29 0 [(1, .val cL), (7, .val cL), (11, .val eA), (12, .val cL), (13, .val cL)], []⟩, [(.exit 0, ⟨dn 29 0 [(7, .val cL)], []⟩)], (Int × Int × (List Int) × Int × Int), fun x => ((di u_) x, ()), fun (x : ((Int × Int × (List Int) × Int × Int × Unit) × Unit)) => (di k_) x.1, Int, fun y => ((y, ()), ()), fun (o : (jk × Unit)) => o.1.1, hZ n⟩
def fY (a0 : Int) (a1 : Int) (a2 : (List Int)) : Option Int := (hZ n (a1, a0, a2, (a2.length : Int), 0)).bind fun y6 => (some y6)
def mw : FS := ⟨⟨[.val cL, .val cL, .val eA], []⟩, ⟨[.val cL], []⟩, Int, fun y => ((y, ()), ()), fun o => o.1.1, fun x => fY n x.1.1 x.1.2.1 x.1.2.2.1⟩
theorem qX : ∀ F x, dW (DK n) 14 28 0 3 (kS n) F x = (ed (C_ q_)) (gw n F) x := fun F x => by kernel_rfl
def h9 : Cx := Cx.addLoop (DK n) 28 3 (kS n)
theorem qY : Good (h9 n) := Good.loop (Gb n) 14 0 (by kernel_rfl) (qX n) n (fun _ => rfl) (fun _ => rfl) (fun _ => rfl) rfl
theorem uD : dq (h9 n) 14 28 0 (mw n) := fun x => by kernel_rfl
def DL : Cx := (Cx.bare (h9 n)).addSpec 28 (mw n)
theorem Gc : Good (DL n) := Good.fn (qY n) 14 0 (uD n) (fun _ => rfl) rfl
def qZ (n : Nat) (v1 v2 v3 v4 v5 v6 v7 v8 v9 : Int) (v10 : (List Int)) (v11 : cS) (v12 v13 : (List Int)) (v14 : Bool) (v15 : Int) (v16 v17 v18 v19 : (List Int)) (v20 : Int) (v21 : (List Int)) (v22 v23 v24 : Int) : Option xP := some (v9, v1, v2, v3, v4, v5, v6, v7, v8, v9, v10, v11, v12, v13, v14, v15, v16, v17, v18, v19, v20, v21, v22, v23, v24)
def kj : FS := ⟨⟨[.obj 0], [nE, dP]⟩, ⟨[.val cL], [nE, dP]⟩, xP, fun y => ((y.1, ()), (de (U_ v_)) y.2, (de (di (U_ u_))) y.2.2.2.2.2.2.2.2.2.2.2, ()), fun (o : (jk × j9)) => (o.1.1, ((fD (J_ j_)) o.2.1 ((de (di (U_ k_))) o.2.2.1))), fun (x : (Unit × j9)) => qZ n x.2.1.1 x.2.1.2.1 x.2.1.2.2.1 x.2.1.2.2.2.1 x.2.1.2.2.2.2.1 x.2.1.2.2.2.2.2.1 x.2.1.2.2.2.2.2.2.1 x.2.1.2.2.2.2.2.2.2.1 x.2.1.2.2.2.2.2.2.2.2.1 x.2.1.2.2.2.2.2.2.2.2.2.1 x.2.2.1.1 x.2.2.1.2.1 x.2.2.1.2.2.1 x.2.2.1.2.2.2.1 x.2.2.1.2.2.2.2.1 x.2.2.1.2.2.2.2.2.1 x.2.2.1.2.2.2.2.2.2.1 x.2.2.1.2.2.2.2.2.2.2.1 x.2.2.1.2.2.2.2.2.2.2.2.1 x.2.2.1.2.2.2.2.2.2.2.2.2.1 x.2.2.1.2.2.2.2.2.2.2.2.2.2.1 x.2.2.1.2.2.2.2.2.2.2.2.2.2.2.1 x.2.2.1.2.2.2.2.2.2.2.2.2.2.2.2.1 x.2.2.1.2.2.2.2.2.2.2.2.2.2.2.2.2.1⟩
theorem q9 : dq (DL n) 14 12 0 (kj n) := fun x => by kernel_rfl
def DM : Cx := (Cx.bare (DL n)).addSpec 12 (kj n)
theorem Gd : Good (DM n) := Good.fn (Gc n) 14 0 (q9 n) (fun _ => rfl) rfl
def tr (n : Nat) (v1 v2 v3 v4 v5 v6 v7 v8 v9 : Int) (v10 : (List Int)) (v11 : cS) (v12 v13 : (List Int)) (v14 : Bool) (v15 : Int) (v16 v17 v18 v19 : (List Int)) (v20 : Int) (v21 : (List Int)) (v22 v23 v24 : Int) : Option C6 := some (v10, v1, v2, v3, v4, v5, v6, v7, v8, v9, v10, v11, v12, v13, v14, v15, v16, v17, v18, v19, v20, v21, v22, v23, v24)
def lB : FS := ⟨⟨[.obj 0], [nE, dP]⟩, ⟨[.val sm], [nE, dP]⟩, C6, fun y => ((y.1, ()), (de (U_ v_)) y.2, (de (di (U_ u_))) y.2.2.2.2.2.2.2.2.2.2.2, ()), fun (o : (lV × j9)) => (o.1.1, ((fD (J_ j_)) o.2.1 ((de (di (U_ k_))) o.2.2.1))), fun (x : (Unit × j9)) => tr n x.2.1.1 x.2.1.2.1 x.2.1.2.2.1 x.2.1.2.2.2.1 x.2.1.2.2.2.2.1 x.2.1.2.2.2.2.2.1 x.2.1.2.2.2.2.2.2.1 x.2.1.2.2.2.2.2.2.2.1 x.2.1.2.2.2.2.2.2.2.2.1 x.2.1.2.2.2.2.2.2.2.2.2.1 x.2.2.1.1 x.2.2.1.2.1 x.2.2.1.2.2.1 x.2.2.1.2.2.2.1 x.2.2.1.2.2.2.2.1 x.2.2.1.2.2.2.2.2.1 x.2.2.1.2.2.2.2.2.2.1 x.2.2.1.2.2.2.2.2.2.2.1 x.2.2.1.2.2.2.2.2.2.2.2.1 x.2.2.1.2.2.2.2.2.2.2.2.2.1 x.2.2.1.2.2.2.2.2.2.2.2.2.2.1 x.2.2.1.2.2.2.2.2.2.2.2.2.2.2.1 x.2.2.1.2.2.2.2.2.2.2.2.2.2.2.2.1 x.2.2.1.2.2.2.2.2.2.2.2.2.2.2.2.2.1⟩
theorem ts : dq (DM n) 14 16 0 (lB n) := fun x => by kernel_rfl
def DN : Cx := (Cx.bare (DM n)).addSpec 16 (lB n)
theorem Ge : Good (DN n) := Good.fn (Gd n) 14 0 (ts n) (fun _ => rfl) rfl
def jV (n : Nat) (F : AC → Option (w7)) (v15 : dQ) (v16 : (List Int)) (v17 : Int) (v18 : cS) (v19 v20 : (List Int)) (v21 : Bool) (v22 : Int) (v23 v24 v25 v26 : (List Int)) (v27 : Int) (v28 : (List Int)) (v29 v30 v31 : Int) : Option (w7) := if (decide (v17 < 16)) then (if (decide (0 ≤ v17) && decide (v17 < 16)) then (if decide (v17 < 0) then none else (if ((bits .and .i64 (v27.fdiv (2 ^ (min v17.toNat 64))) 1) == 1) then (if (decide ((v15.length + 1) * 16 ≤ 140737488355328) && decide (1 ≤ 16)) then (F ((v15 ++ [(v17, (v16.getD v17.toNat 0))]), v16, (wrap .i64 (v17 + 1)), v18, v19, v20, v21, v22, v23, v24, v25, v26, v27, v28, v29, v30, v31)) else none) else (F (v15, v16, (wrap .i64 (v17 + 1)), v18, v19, v20, v21, v22, v23, v24, v25, v26, v27, v28, v29, v30, v31)))) else none) else (some (v15, v18, v19, v20, v21, v22, v23, v24, v25, v26, v27, v28, v29, v30, v31))
def iU : AC → Option (w7) := it (fun F => (jP (eq (ed (C_ q_)))) (jV n F)) n
def iV : Loop := ⟨⟨dn 34 0 [(0, .obj 0), (3, .row 79 kO), (12, .val sm), (13, .val cL)], [dP]⟩, [(.exit 0, ⟨dn 34 0 [(3, .row 79 kO)], [dP]⟩)], AC, fun x => ((dF v_) x, (de (di (U_ u_))) x.2.2.2, ()), fun (x : ((dQ × (List Int) × Int × Unit) × jl)) => (gI j_) x.1 ((de (di (U_ k_))) x.2.1), w7, fun y => ((y.1, ()), (de (di (U_ u_))) y.2, ()), fun (o : ((dQ × Unit) × jl)) => (o.1.1, ((de (di (U_ k_))) o.2.1)), iU n⟩
def kl (v1 : cS) (v2 v3 : (List Int)) (v4 : Bool) (v5 : Int) (v6 v7 v8 v9 : (List Int)) (v10 : Int) (v11 : (List Int)) (v12 v13 v14 : Int) : Option w7 := (iU n ([], v9, 0, v1, v2, v3, v4, v5, v6, v7, v8, v9, v10, v11, v12, v13, v14)).bind fun y15 => (some (y15.1, y15.2.1, y15.2.2.1, y15.2.2.2.1, y15.2.2.2.2.1, y15.2.2.2.2.2.1, y15.2.2.2.2.2.2.1, y15.2.2.2.2.2.2.2.1, y15.2.2.2.2.2.2.2.2.1, y15.2.2.2.2.2.2.2.2.2.1, y15.2.2.2.2.2.2.2.2.2.2.1, y15.2.2.2.2.2.2.2.2.2.2.2.1, y15.2.2.2.2.2.2.2.2.2.2.2.2.1, y15.2.2.2.2.2.2.2.2.2.2.2.2.2.1, y15.2.2.2.2.2.2.2.2.2.2.2.2.2.2))
def jW : FS := ⟨⟨[.obj 0], [dP]⟩, ⟨[.val (.sl kO)], [dP]⟩, w7, fun y => ((y.1, ()), (de (di (U_ u_))) y.2, ()), fun (o : ((dQ × Unit) × jl)) => (o.1.1, ((de (di (U_ k_))) o.2.1)), fun (x : (Unit × jl)) => kl n x.2.1.1 x.2.1.2.1 x.2.1.2.2.1 x.2.1.2.2.2.1 x.2.1.2.2.2.2.1 x.2.1.2.2.2.2.2.1 x.2.1.2.2.2.2.2.2.1 x.2.1.2.2.2.2.2.2.2.1 x.2.1.2.2.2.2.2.2.2.2.1 x.2.1.2.2.2.2.2.2.2.2.2.1 x.2.1.2.2.2.2.2.2.2.2.2.2.1 x.2.1.2.2.2.2.2.2.2.2.2.2.2.1 x.2.1.2.2.2.2.2.2.2.2.2.2.2.2.1 x.2.1.2.2.2.2.2.2.2.2.2.2.2.2.2.1⟩
theorem ng : ∀ F x, dW (DN n) 14 29 0 5 (iV n) F x = (jP (eq (ed (C_ q_)))) (jV n F) x := fun F x => by kernel_rfl
def fP : Cx := Cx.addLoop (DN n) 29 5 (iV n)
theorem nh : Good (fP n) := Good.loop (Ge n) 14 0 (by kernel_rfl) (ng n) n (fun _ => rfl) (fun _ => rfl) (fun _ => rfl) rfl
theorem pG : dq (fP n) 14 29 0 (jW n) := fun x => by kernel_rfl
def DO : Cx := (Cx.bare (fP n)).addSpec 29 (jW n)
theorem Gf : Good (DO n) := Good.fn (nh n) 14 0 (pG n) (fun _ => rfl) rfl
def ra (v1 v2 v3 v4 v5 v6 v7 v8 v9 : Int) (v10 : (List Int)) (v11 : cS) (v12 v13 : (List Int)) (v14 : Bool) (v15 : Int) (v16 v17 v18 v19 : (List Int)) (v20 : Int) (v21 : (List Int)) (v22 v23 v24 : Int) : Option C8 := if (decide (v7 < 4)) then (some ([], v1, v2, v3, v4, v5, v6, v7, v8, v9, v10, v11, v12, v13, v14, v15, v16, v17, v18, v19, v20, v21, v22, v23, v24)) else ((kl n v11 v12 v13 v14 v15 v16 v17 v18 v19 v20 v21 v22 v23 v24).bind fun y25 => (some (y25.1, v1, v2, v3, v4, v5, v6, v7, v8, v9, v10, y25.2.1, y25.2.2.1, y25.2.2.2.1, y25.2.2.2.2.1, y25.2.2.2.2.2.1, y25.2.2.2.2.2.2.1, y25.2.2.2.2.2.2.2.1, y25.2.2.2.2.2.2.2.2.1, y25.2.2.2.2.2.2.2.2.2.1, y25.2.2.2.2.2.2.2.2.2.2.1, y25.2.2.2.2.2.2.2.2.2.2.2.1, y25.2.2.2.2.2.2.2.2.2.2.2.2.1, y25.2.2.2.2.2.2.2.2.2.2.2.2.2.1, y25.2.2.2.2.2.2.2.2.2.2.2.2.2.2)))
def km : FS := ⟨⟨[.obj 0], [nE, dP]⟩, ⟨[.val (.sl kO)], [nE, dP]⟩, C8, fun y => ((y.1, ()), (de (U_ v_)) y.2, (de (di (U_ u_))) y.2.2.2.2.2.2.2.2.2.2.2, ()), fun (o : ((dQ × Unit) × j9)) => (o.1.1, ((fD (J_ j_)) o.2.1 ((de (di (U_ k_))) o.2.2.1))), fun (x : (Unit × j9)) => ra n x.2.1.1 x.2.1.2.1 x.2.1.2.2.1 x.2.1.2.2.2.1 x.2.1.2.2.2.2.1 x.2.1.2.2.2.2.2.1 x.2.1.2.2.2.2.2.2.1 x.2.1.2.2.2.2.2.2.2.1 x.2.1.2.2.2.2.2.2.2.2.1 x.2.1.2.2.2.2.2.2.2.2.2.1 x.2.2.1.1 x.2.2.1.2.1 x.2.2.1.2.2.1 x.2.2.1.2.2.2.1 x.2.2.1.2.2.2.2.1 x.2.2.1.2.2.2.2.2.1 x.2.2.1.2.2.2.2.2.2.1 x.2.2.1.2.2.2.2.2.2.2.1 x.2.2.1.2.2.2.2.2.2.2.2.1 x.2.2.1.2.2.2.2.2.2.2.2.2.1 x.2.2.1.2.2.2.2.2.2.2.2.2.2.1 x.2.2.1.2.2.2.2.2.2.2.2.2.2.2.1 x.2.2.1.2.2.2.2.2.2.2.2.2.2.2.2.1 x.2.2.1.2.2.2.2.2.2.2.2.2.2.2.2.2.1⟩
theorem rb : dq (DO n) 14 15 0 (km n) := fun x => by kernel_rfl
def DP : Cx := (Cx.bare (DO n)).addSpec 15 (km n)
theorem Gg : Good (DP n) := Good.fn (Gf n) 14 0 (rb n) (fun _ => rfl) rfl
def zx (n : Nat) (F : (dQ × dQ × Int) → Option (dQ)) (v1 v2 : dQ) (v3 : Int) : Option (dQ) := if (decide (v3 < (v1.length : Int))) then (if (decide (0 ≤ v3) && decide (v3 < (v1.length : Int))) then (if (decide (0 ≤ v3) && decide (v3 < (v1.length : Int))) then (if (decide ((v2.length + 1) * 16 ≤ 140737488355328) && decide (1 ≤ 16)) then (F (v1, (v2 ++ [((v1.getD v3.toNat (0, 0)).1, (v1.getD v3.toNat (0, 0)).2)]), (wrap .i64 (v3 + 1)))) else none) else none) else none) else (some v2)
def vP : (dQ × dQ × Int) → Option (dQ) := it (fun F => (C_ q_) (zx n F)) n
def vQ : Loop := ⟨⟨dn 26 0 [(0, .val (.sl kO)), (3, .row 61 kO), (4, .val cL)], []⟩, [(.exit 0, ⟨dn 26 0 [(3, .row 61 kO)], []⟩)], (dQ × dQ × Int), fun x => ((dF u_) x, ()), fun (x : ((dQ × dQ × Int × Unit) × Unit)) => (x.1.1, x.1.2.1, x.1.2.2.1), dQ, fun y => ((y, ()), ()), fun (o : ((dQ × Unit) × Unit)) => o.1.1, vP n⟩
def Et (a0 : dQ) : Option dQ := (vP n (a0, [], 0)).bind fun y4 => (some y4)
def zy : FS := ⟨⟨[.val (.sl kO)], []⟩, ⟨[.val (.sl kO)], []⟩, dQ, fun y => ((y, ()), ()), fun o => o.1.1, fun x => Et n x.1.1⟩
theorem Ba : ∀ F x, dW (DP n) 14 14 0 3 (vQ n) F x = (C_ q_) (zx n F) x := fun F x => by kernel_rfl
def rc : Cx := Cx.addLoop (DP n) 14 3 (vQ n)
theorem Bb : Good (rc n) := Good.loop (Gg n) 14 0 (by kernel_rfl) (Ba n) n (fun _ => rfl) (fun _ => rfl) (fun _ => rfl) rfl
theorem Eu : dq (rc n) 14 14 0 (zy n) := fun x => by kernel_rfl
def DQ : Cx := (Cx.bare (rc n)).addSpec 14 (zy n)
theorem Gh : Good (DQ n) := Good.fn (Bb n) 14 0 (Eu n) (fun _ => rfl) rfl
def w8 (n : Nat) (F : (dQ × dQ × Int) → Option (j8)) (v1 v2 : dQ) (v3 : Int) : Option (j8) := if (decide (v3 < (v1.length : Int))) then (if (decide (0 ≤ v3) && decide (v3 < (v1.length : Int))) then (if (decide (0 ≤ v3) && decide (v3 < (v2.length : Int))) then (if (!(((v1.getD v3.toNat (0, 0)).1 == (v2.getD v3.toNat (0, 0)).1) && ((v1.getD v3.toNat (0, 0)).2 == (v2.getD v3.toNat (0, 0)).2))) then (some (.inl ((false, ()), ()))) else (F (v1, v2, (wrap .i64 (v3 + 1))))) else none) else none) else (some (.inr ((), ())))
def tY : (dQ × dQ × Int) → Option (j8) := it (fun F => (C_ q_) (w8 n F)) n
def tZ : Loop := ⟨⟨dn 26 0 [(0, .val (.sl kO)), (1, .val (.sl kO)), (5, .val cL)], []⟩, [(.ret, ⟨dn 26 0 [(4, .val .bool)], []⟩), (.exit 0, ⟨dn 26 0 [], []⟩)], (dQ × dQ × Int), fun x => ((dF u_) x, ()), fun (x : ((dQ × dQ × Int × Unit) × Unit)) => (x.1.1, x.1.2.1, x.1.2.2.1), j8, fun y => y, fun y => y, tY n⟩
def DR (a0 : dQ) (a1 : dQ) : Option Bool := if ((a0.length : Int) != (a1.length : Int)) then (some false) else ((tY n (a0, a1, 0)).bind fun y4 => ((Sum.elim (fun (z5 : (kP × Unit)) => (some z5.1.1)) (fun (z6 : (Unit × Unit)) => (some true))) y4))
def w9 : FS := ⟨⟨[.val (.sl kO), .val (.sl kO)], []⟩, ⟨[.val .bool], []⟩, Bool, fun y => ((y, ()), ()), fun o => o.1.1, fun x => DR n x.1.1 x.1.2.1⟩
theorem zA : ∀ F x, dW (DQ n) 14 13 0 4 (tZ n) F x = (C_ q_) (w8 n F) x := fun F x => by kernel_rfl
def oO : Cx := Cx.addLoop (DQ n) 13 4 (tZ n)
theorem zB : Good (oO n) := Good.loop (Gh n) 14 0 (by kernel_rfl) (zA n) n (fun _ => rfl) (fun _ => rfl) (fun _ => rfl) rfl
theorem DS : dq (oO n) 14 13 0 (w9 n) := fun x => by kernel_rfl
def DT : Cx := (Cx.bare (oO n)).addSpec 13 (w9 n)
theorem Gi : Good (DT n) := Good.fn (zB n) 14 0 (DS n) (fun _ => rfl) rfl
def kn (n : Nat) (v1 : cS) (v2 v3 : (List Int)) (v4 : Bool) (v5 : Int) (v6 v7 v8 v9 : (List Int)) (v10 : Int) (v11 : (List Int)) (v12 v13 v14 : Int) : Option tg := some (v12, v1, v2, v3, v4, v5, v6, v7, v8, v9, v10, v11, v12, v13, v14)
def jX : FS := ⟨⟨[.obj 0], [dP]⟩, ⟨[.val cL], [dP]⟩, tg, fun y => ((y.1, ()), (de (di (U_ u_))) y.2, ()), fun (o : (jk × jl)) => (o.1.1, ((de (di (U_ k_))) o.2.1)), fun (x : (Unit × jl)) => kn n x.2.1.1 x.2.1.2.1 x.2.1.2.2.1 x.2.1.2.2.2.1 x.2.1.2.2.2.2.1 x.2.1.2.2.2.2.2.1 x.2.1.2.2.2.2.2.2.1 x.2.1.2.2.2.2.2.2.2.1 x.2.1.2.2.2.2.2.2.2.2.1 x.2.1.2.2.2.2.2.2.2.2.2.1 x.2.1.2.2.2.2.2.2.2.2.2.2.1 x.2.1.2.2.2.2.2.2.2.2.2.2.2.1 x.2.1.2.2.2.2.2.2.2.2.2.2.2.2.1 x.2.1.2.2.2.2.2.2.2.2.2.2.2.2.2.1⟩
theorem pH : dq (DT n) 14 27 0 (jX n) := fun x => by kernel_rfl
def DU : Cx := (Cx.bare (DT n)).addSpec 27 (jX n)
theorem Gj : Good (DU n) := Good.fn (Gi n) 14 0 (pH n) (fun _ => rfl) rfl
def fQ (v1 v2 v3 v4 v5 v6 v7 v8 v9 : Int) (v10 : (List Int)) (v11 : cS) (v12 v13 : (List Int)) (v14 : Bool) (v15 : Int) (v16 v17 v18 v19 : (List Int)) (v20 : Int) (v21 : (List Int)) (v22 v23 v24 : Int) : Option xP := if (decide (v7 < 2)) then (some (0, v1, v2, v3, v4, v5, v6, v7, v8, v9, v10, v11, v12, v13, v14, v15, v16, v17, v18, v19, v20, v21, v22, v23, v24)) else ((kn n v11 v12 v13 v14 v15 v16 v17 v18 v19 v20 v21 v22 v23 v24).bind fun y25 => (some (y25.1, v1, v2, v3, v4, v5, v6, v7, v8, v9, v10, y25.2.1, y25.2.2.1, y25.2.2.2.1, y25.2.2.2.2.1, y25.2.2.2.2.2.1, y25.2.2.2.2.2.2.1, y25.2.2.2.2.2.2.2.1, y25.2.2.2.2.2.2.2.2.1, y25.2.2.2.2.2.2.2.2.2.1, y25.2.2.2.2.2.2.2.2.2.2.1, y25.2.2.2.2.2.2.2.2.2.2.2.1, y25.2.2.2.2.2.2.2.2.2.2.2.2.1, y25.2.2.2.2.2.2.2.2.2.2.2.2.2.1, y25.2.2.2.2.2.2.2.2.2.2.2.2.2.2)))
def ko : FS := ⟨⟨[.obj 0], [nE, dP]⟩, ⟨[.val cL], [nE, dP]⟩, xP, fun y => ((y.1, ()), (de (U_ v_)) y.2, (de (di (U_ u_))) y.2.2.2.2.2.2.2.2.2.2.2, ()), fun (o : (jk × j9)) => (o.1.1, ((fD (J_ j_)) o.2.1 ((de (di (U_ k_))) o.2.2.1))), fun (x : (Unit × j9)) => fQ n x.2.1.1 x.2.1.2.1 x.2.1.2.2.1 x.2.1.2.2.2.1 x.2.1.2.2.2.2.1 x.2.1.2.2.2.2.2.1 x.2.1.2.2.2.2.2.2.1 x.2.1.2.2.2.2.2.2.2.1 x.2.1.2.2.2.2.2.2.2.2.1 x.2.1.2.2.2.2.2.2.2.2.2.1 x.2.2.1.1 x.2.2.1.2.1 x.2.2.1.2.2.1 x.2.2.1.2.2.2.1 x.2.2.1.2.2.2.2.1 x.2.2.1.2.2.2.2.2.1 x.2.2.1.2.2.2.2.2.2.1 x.2.2.1.2.2.2.2.2.2.2.1 x.2.2.1.2.2.2.2.2.2.2.2.1 x.2.2.1.2.2.2.2.2.2.2.2.2.1 x.2.2.1.2.2.2.2.2.2.2.2.2.2.1 x.2.2.1.2.2.2.2.2.2.2.2.2.2.2.1 x.2.2.1.2.2.2.2.2.2.2.2.2.2.2.2.1 x.2.2.1.2.2.2.2.2.2.2.2.2.2.2.2.2.1⟩
theorem re : dq (DU n) 14 10 0 (ko n) := fun x => by kernel_rfl
def DW : Cx := (Cx.bare (DU n)).addSpec 10 (ko n)
theorem Gk : Good (DW n) := Good.fn (Gj n) 14 0 (re n) (fun _ => rfl) rfl
def zC (n : Nat) (F : gJ → Option (gJ)) (v7 v8 v9 v10 v11 v12 v13 v14 v15 : Int) (v16 v17 : (List Int)) (v18 : cS) (v19 v20 : (List Int)) (v21 : Bool) (v22 : Int) (v23 v24 v25 v26 : (List Int)) (v27 : Int) (v28 : (List Int)) (v29 v30 v31 : Int) : Option (gJ) := if (v14 == 0) then (if (decide (v13 < 5)) then (if (decide (0 ≤ (wrap .i64 (v13 + 1))) && decide ((wrap .i64 (v13 + 1)) < 6)) then (F (v7, v8, v9, v10, v11, v12, (wrap .i64 (v13 + 1)), (v17.getD ((wrap .i64 (v13 + 1))).toNat 0), v15, v16, v17, v18, v19, v20, v21, v22, v23, v24, v25, v26, v27, v28, v29, v30, v31)) else none) else (some (v7, v8, v9, v10, v11, v12, v13, v14, v15, v16, v17, v18, v19, v20, v21, v22, v23, v24, v25, v26, v27, v28, v29, v30, v31))) else (some (v7, v8, v9, v10, v11, v12, v13, v14, v15, v16, v17, v18, v19, v20, v21, v22, v23, v24, v25, v26, v27, v28, v29, v30, v31))
def Bc : gJ → Option (gJ) := it (fun F => (gD (eq (ed (C_ q_)))) (zC n F)) n
def vR : Loop := ⟨⟨dn 52 0 [(0, .obj 0), (2, .obj 1)], [i1, [.val (.arr 6 cL)], dP]⟩, [(.exit 0, ⟨dn 52 0 [], [i1, [.val (.arr 6 cL)], dP]⟩)], gJ, fun x => ((), (de (U_ v_)) x, (x.2.2.2.2.2.2.2.2.2.2.1, ()), (de (di (U_ u_))) x.2.2.2.2.2.2.2.2.2.2.2, ()), fun (x : tj) => (fD (J_ j_)) x.2.1 ((x.2.2.1.1, ((de (di (U_ k_))) x.2.2.2.1))), gJ, fun y => ((), (de (U_ v_)) y, (y.2.2.2.2.2.2.2.2.2.2.1, ()), (de (di (U_ u_))) y.2.2.2.2.2.2.2.2.2.2.2, ()), fun (o : tj) => (fD (J_ j_)) o.2.1 ((o.2.2.1.1, ((de (di (U_ k_))) o.2.2.2.1))), Bc n⟩
def zD (F : Az → Option (xW)) (v67 v68 v69 v70 v71 v72 v73 v74 v75 v76 v77 v78 v79 v80 : Int) (v81 : (List Int)) (v82 : (List (List Int))) (v83 : cS) (v84 v85 : (List Int)) (v86 : Bool) (v87 : Int) (v88 v89 v90 v91 : (List Int)) (v92 : Int) (v93 : (List Int)) (v94 v95 v96 : Int) : Option (xW) := if (decide (v71 < 20)) then ((eZ n v72 v73 v74 v75 v76 v77 v78 v79 v80 v81 v83 v84 v85 v86 v87 v88 v89 v90 v91 v92 v93 v94 v95 v96).bind fun y97 => (if (!y97.1) then ((sI n ([0, 0, v71, 0, 0, 0, 0, 0, 0, 0, 0, 0, 0, 0, 0, 0]) y97.2.1 y97.2.2.1 y97.2.2.2.1 y97.2.2.2.2.1 y97.2.2.2.2.2.1 y97.2.2.2.2.2.2.1 y97.2.2.2.2.2.2.2.1 y97.2.2.2.2.2.2.2.2.1 y97.2.2.2.2.2.2.2.2.2.1 y97.2.2.2.2.2.2.2.2.2.2.1 v82 y97.2.2.2.2.2.2.2.2.2.2.2.1 y97.2.2.2.2.2.2.2.2.2.2.2.2.1 y97.2.2.2.2.2.2.2.2.2.2.2.2.2.1 y97.2.2.2.2.2.2.2.2.2.2.2.2.2.2.1 y97.2.2.2.2.2.2.2.2.2.2.2.2.2.2.2.1 y97.2.2.2.2.2.2.2.2.2.2.2.2.2.2.2.2.1 y97.2.2.2.2.2.2.2.2.2.2.2.2.2.2.2.2.2.1 y97.2.2.2.2.2.2.2.2.2.2.2.2.2.2.2.2.2.2.1 y97.2.2.2.2.2.2.2.2.2.2.2.2.2.2.2.2.2.2.2.1 y97.2.2.2.2.2.2.2.2.2.2.2.2.2.2.2.2.2.2.2.2.1 y97.2.2.2.2.2.2.2.2.2.2.2.2.2.2.2.2.2.2.2.2.2.1 y97.2.2.2.2.2.2.2.2.2.2.2.2.2.2.2.2.2.2.2.2.2.2.1 y97.2.2.2.2.2.2.2.2.2.2.2.2.2.2.2.2.2.2.2.2.2.2.2.1 y97.2.2.2.2.2.2.2.2.2.2.2.2.2.2.2.2.2.2.2.2.2.2.2.2).bind fun y98 => (if (y98.2.1 != 0) then (some (.inl ((false, ()), ((y98.2.2.1, y98.2.2.2.1, y98.2.2.2.2.1, y98.2.2.2.2.2.1, y98.2.2.2.2.2.2.1, y98.2.2.2.2.2.2.2.1, y98.2.2.2.2.2.2.2.2.1, y98.2.2.2.2.2.2.2.2.2.1, y98.2.2.2.2.2.2.2.2.2.2.1, y98.2.2.2.2.2.2.2.2.2.2.2.1, ()), (y98.2.2.2.2.2.2.2.2.2.2.2.2.1, ()), (y98.2.2.2.2.2.2.2.2.2.2.2.2.2.1, y98.2.2.2.2.2.2.2.2.2.2.2.2.2.2.1, y98.2.2.2.2.2.2.2.2.2.2.2.2.2.2.2.1, y98.2.2.2.2.2.2.2.2.2.2.2.2.2.2.2.2.1, y98.2.2.2.2.2.2.2.2.2.2.2.2.2.2.2.2.2.1, y98.2.2.2.2.2.2.2.2.2.2.2.2.2.2.2.2.2.2.1, y98.2.2.2.2.2.2.2.2.2.2.2.2.2.2.2.2.2.2.2.1, y98.2.2.2.2.2.2.2.2.2.2.2.2.2.2.2.2.2.2.2.2.1, y98.2.2.2.2.2.2.2.2.2.2.2.2.2.2.2.2.2.2.2.2.2.1, y98.2.2.2.2.2.2.2.2.2.2.2.2.2.2.2.2.2.2.2.2.2.2.1, y98.2.2.2.2.2.2.2.2.2.2.2.2.2.2.2.2.2.2.2.2.2.2.2.1, y98.2.2.2.2.2.2.2.2.2.2.2.2.2.2.2.2.2.2.2.2.2.2.2.2.1, y98.2.2.2.2.2.2.2.2.2.2.2.2.2.2.2.2.2.2.2.2.2.2.2.2.2.1, y98.2.2.2.2.2.2.2.2.2.2.2.2.2.2.2.2.2.2.2.2.2.2.2.2.2.2, ()), ())))) else ((eZ n y98.2.2.1 y98.2.2.2.1 y98.2.2.2.2.1 y98.2.2.2.2.2.1 y98.2.2.2.2.2.2.1 y98.2.2.2.2.2.2.2.1 y98.2.2.2.2.2.2.2.2.1 y98.2.2.2.2.2.2.2.2.2.1 y98.2.2.2.2.2.2.2.2.2.2.1 y98.2.2.2.2.2.2.2.2.2.2.2.1 y98.2.2.2.2.2.2.2.2.2.2.2.2.2.1 y98.2.2.2.2.2.2.2.2.2.2.2.2.2.2.1 y98.2.2.2.2.2.2.2.2.2.2.2.2.2.2.2.1 y98.2.2.2.2.2.2.2.2.2.2.2.2.2.2.2.2.1 y98.2.2.2.2.2.2.2.2.2.2.2.2.2.2.2.2.2.1 y98.2.2.2.2.2.2.2.2.2.2.2.2.2.2.2.2.2.2.1 y98.2.2.2.2.2.2.2.2.2.2.2.2.2.2.2.2.2.2.2.1 y98.2.2.2.2.2.2.2.2.2.2.2.2.2.2.2.2.2.2.2.2.1 y98.2.2.2.2.2.2.2.2.2.2.2.2.2.2.2.2.2.2.2.2.2.1 y98.2.2.2.2.2.2.2.2.2.2.2.2.2.2.2.2.2.2.2.2.2.2.1 y98.2.2.2.2.2.2.2.2.2.2.2.2.2.2.2.2.2.2.2.2.2.2.2.1 y98.2.2.2.2.2.2.2.2.2.2.2.2.2.2.2.2.2.2.2.2.2.2.2.2.1 y98.2.2.2.2.2.2.2.2.2.2.2.2.2.2.2.2.2.2.2.2.2.2.2.2.2.1 y98.2.2.2.2.2.2.2.2.2.2.2.2.2.2.2.2.2.2.2.2.2.2.2.2.2.2).bind fun y99 => (if (y98.1.2.2 != y99.1) then (some (.inl ((false, ()), ((y99.2.1, y99.2.2.1, y99.2.2.2.1, y99.2.2.2.2.1, y99.2.2.2.2.2.1, y99.2.2.2.2.2.2.1, y99.2.2.2.2.2.2.2.1, y99.2.2.2.2.2.2.2.2.1, y99.2.2.2.2.2.2.2.2.2.1, y99.2.2.2.2.2.2.2.2.2.2.1, ()), (y98.2.2.2.2.2.2.2.2.2.2.2.2.1, ()), (y99.2.2.2.2.2.2.2.2.2.2.2.1, y99.2.2.2.2.2.2.2.2.2.2.2.2.1, y99.2.2.2.2.2.2.2.2.2.2.2.2.2.1, y99.2.2.2.2.2.2.2.2.2.2.2.2.2.2.1, y99.2.2.2.2.2.2.2.2.2.2.2.2.2.2.2.1, y99.2.2.2.2.2.2.2.2.2.2.2.2.2.2.2.2.1, y99.2.2.2.2.2.2.2.2.2.2.2.2.2.2.2.2.2.1, y99.2.2.2.2.2.2.2.2.2.2.2.2.2.2.2.2.2.2.1, y99.2.2.2.2.2.2.2.2.2.2.2.2.2.2.2.2.2.2.2.1, y99.2.2.2.2.2.2.2.2.2.2.2.2.2.2.2.2.2.2.2.2.1, y99.2.2.2.2.2.2.2.2.2.2.2.2.2.2.2.2.2.2.2.2.2.1, y99.2.2.2.2.2.2.2.2.2.2.2.2.2.2.2.2.2.2.2.2.2.2.1, y99.2.2.2.2.2.2.2.2.2.2.2.2.2.2.2.2.2.2.2.2.2.2.2.1, y99.2.2.2.2.2.2.2.2.2.2.2.2.2.2.2.2.2.2.2.2.2.2.2.2, ()), ())))) else ((eu n y99.2.1 y99.2.2.1 y99.2.2.2.1 y99.2.2.2.2.1 y99.2.2.2.2.2.1 y99.2.2.2.2.2.2.1 y99.2.2.2.2.2.2.2.1 y99.2.2.2.2.2.2.2.2.1 y99.2.2.2.2.2.2.2.2.2.1 y99.2.2.2.2.2.2.2.2.2.2.1 y99.2.2.2.2.2.2.2.2.2.2.2.1 y99.2.2.2.2.2.2.2.2.2.2.2.2.1 y99.2.2.2.2.2.2.2.2.2.2.2.2.2.1 y99.2.2.2.2.2.2.2.2.2.2.2.2.2.2.1 y99.2.2.2.2.2.2.2.2.2.2.2.2.2.2.2.1 y99.2.2.2.2.2.2.2.2.2.2.2.2.2.2.2.2.1 y99.2.2.2.2.2.2.2.2.2.2.2.2.2.2.2.2.2.1 y99.2.2.2.2.2.2.2.2.2.2.2.2.2.2.2.2.2.2.1 y99.2.2.2.2.2.2.2.2.2.2.2.2.2.2.2.2.2.2.2.1 y99.2.2.2.2.2.2.2.2.2.2.2.2.2.2.2.2.2.2.2.2.1 y99.2.2.2.2.2.2.2.2.2.2.2.2.2.2.2.2.2.2.2.2.2.1 y99.2.2.2.2.2.2.2.2.2.2.2.2.2.2.2.2.2.2.2.2.2.2.1 y99.2.2.2.2.2.2.2.2.2.2.2.2.2.2.2.2.2.2.2.2.2.2.2.1 y99.2.2.2.2.2.2.2.2.2.2.2.2.2.2.2.2.2.2.2.2.2.2.2.2).bind fun y100 => ((fY n y99.2.2.1 y100 ([0, 7])).bind fun y101 => (F (v67, v68, (wrap .i64 ((wrap .i64 (10 * v69)) + y98.1.1)), (if y101 > v70 then y101 else v70), (wrap .i64 (v71 + 1)), y99.2.1, y99.2.2.1, y99.2.2.2.1, y99.2.2.2.2.1, y99.2.2.2.2.2.1, y99.2.2.2.2.2.2.1, y99.2.2.2.2.2.2.2.1, y99.2.2.2.2.2.2.2.2.1, y99.2.2.2.2.2.2.2.2.2.1, y99.2.2.2.2.2.2.2.2.2.2.1, y98.2.2.2.2.2.2.2.2.2.2.2.2.1, y99.2.2.2.2.2.2.2.2.2.2.2.1, y99.2.2.2.2.2.2.2.2.2.2.2.2.1, y99.2.2.2.2.2.2.2.2.2.2.2.2.2.1, y99.2.2.2.2.2.2.2.2.2.2.2.2.2.2.1, y99.2.2.2.2.2.2.2.2.2.2.2.2.2.2.2.1, y99.2.2.2.2.2.2.2.2.2.2.2.2.2.2.2.2.1, y99.2.2.2.2.2.2.2.2.2.2.2.2.2.2.2.2.2.1, y99.2.2.2.2.2.2.2.2.2.2.2.2.2.2.2.2.2.2.1, y99.2.2.2.2.2.2.2.2.2.2.2.2.2.2.2.2.2.2.2.1, y99.2.2.2.2.2.2.2.2.2.2.2.2.2.2.2.2.2.2.2.2.1, y99.2.2.2.2.2.2.2.2.2.2.2.2.2.2.2.2.2.2.2.2.2.1, y99.2.2.2.2.2.2.2.2.2.2.2.2.2.2.2.2.2.2.2.2.2.2.1, y99.2.2.2.2.2.2.2.2.2.2.2.2.2.2.2.2.2.2.2.2.2.2.2.1, y99.2.2.2.2.2.2.2.2.2.2.2.2.2.2.2.2.2.2.2.2.2.2.2.2)))))))) else (some (.inr ((v67, v68, v69, v70, ()), ((y97.2.1, y97.2.2.1, y97.2.2.2.1, y97.2.2.2.2.1, y97.2.2.2.2.2.1, y97.2.2.2.2.2.2.1, y97.2.2.2.2.2.2.2.1, y97.2.2.2.2.2.2.2.2.1, y97.2.2.2.2.2.2.2.2.2.1, y97.2.2.2.2.2.2.2.2.2.2.1, ()), (v82, ()), (y97.2.2.2.2.2.2.2.2.2.2.2.1, y97.2.2.2.2.2.2.2.2.2.2.2.2.1, y97.2.2.2.2.2.2.2.2.2.2.2.2.2.1, y97.2.2.2.2.2.2.2.2.2.2.2.2.2.2.1, y97.2.2.2.2.2.2.2.2.2.2.2.2.2.2.2.1, y97.2.2.2.2.2.2.2.2.2.2.2.2.2.2.2.2.1, y97.2.2.2.2.2.2.2.2.2.2.2.2.2.2.2.2.2.1, y97.2.2.2.2.2.2.2.2.2.2.2.2.2.2.2.2.2.2.1, y97.2.2.2.2.2.2.2.2.2.2.2.2.2.2.2.2.2.2.2.1, y97.2.2.2.2.2.2.2.2.2.2.2.2.2.2.2.2.2.2.2.2.1, y97.2.2.2.2.2.2.2.2.2.2.2.2.2.2.2.2.2.2.2.2.2.1, y97.2.2.2.2.2.2.2.2.2.2.2.2.2.2.2.2.2.2.2.2.2.2.1, y97.2.2.2.2.2.2.2.2.2.2.2.2.2.2.2.2.2.2.2.2.2.2.2.1, y97.2.2.2.2.2.2.2.2.2.2.2.2.2.2.2.2.2.2.2.2.2.2.2.2, ()), ())))))) else (some (.inr ((v67, v68, v69, v70, ()), ((v72, v73, v74, v75, v76, v77, v78, v79, v80, v81, ()), (v82, ()), (v83, v84, v85, v86, v87, v88, v89, v90, v91, v92, v93, v94, v95, v96, ()), ()))))
def Bd : Az → Option (xW) := it (fun F => (gD (jP (eq q_))) (zD n F)) n
def vS : Loop := ⟨⟨dn 152 0 [(3, .obj 0), (6, .val cL), (8, .val cL), (9, .obj 1), (10, .val cL), (11, .val cL), (12, .val cL)], [i1, [.val kg], dP]⟩, [(.ret, ⟨dn 152 0 [(0, .val .bool)], [i1, [.val kg], dP]⟩), (.exit 0, ⟨dn 152 0 [(3, .obj 0), (6, .val cL), (8, .val cL), (9, .obj 1), (10, .val cL), (11, .val cL)], [i1, [.val kg], dP]⟩)], Az, fun x => ((di v_) x, (de (U_ v_)) x.2.2.2.2.2, (x.2.2.2.2.2.2.2.2.2.2.2.2.2.2.2.1, ()), (de (di (U_ u_))) x.2.2.2.2.2.2.2.2.2.2.2.2.2.2.2.2, ()), fun (x : ((Int × Int × Int × Int × Int × Unit) × nG)) => (sk j_) x.1 ((fD (J_ j_)) x.2.1 ((x.2.2.1.1, ((de (di (U_ k_))) x.2.2.2.1)))), xW, fun y => y, fun y => y, Bd n⟩
def fR : Option Bool := if Nat.beq n 30000 = true then some true else none
def zE : FS := ⟨⟨[], []⟩, ⟨[.val .bool], []⟩, Bool, fun y => ((y, ()), ()), fun o => o.1.1, fun x => fR n ⟩
theorem Be : ∀ F x, dW (DW n) 14 24 0 1 (vR n) F x = (gD (eq (ed (C_ q_)))) (zC n F) x := fun F x => by kernel_rfl
def rf : Cx := Cx.addLoop (DW n) 24 1 (vR n)
theorem Bf : Good (rf n) := Good.loop (Gk n) 14 0 (by kernel_rfl) (Be n) n (fun _ => rfl) (fun _ => rfl) (fun _ => rfl) rfl
theorem Bg : ∀ F x, dW (rf n) 14 5 0 13 (vS n) F x = (gD (jP (eq q_))) (zD n F) x := fun F x => by kernel_rfl
def ni : Cx := Cx.addLoop (rf n) 5 13 (vS n)
theorem vT : Good (ni n) := Good.loop (Bf n) 14 0 (by kernel_rfl) (Bg n) n (fun _ => rfl) (fun _ => rfl) (fun _ => rfl) rfl
theorem Ev : dq ((fun n => ni n) 30000) 14 5 0 (zE 30000) := fun x => by kernel_rfl
def DX : Cx := (Cx.bare (ni n)).addSpec 5 (zE n)
theorem Gl : Good (DX n) := Good.known (cx := (fun n => ni n)) (fun n => vT n) 30000 (fun hH hA hx hρ hk => vz ((fun n => vT n) 30000) Ev (fun _ => rfl) rfl hH hA hx hρ hk) (fun n hn x => Au hn) n
def zF (n : Nat) (F : gJ → Option (gJ)) (v18 v19 v20 v21 v22 v23 v24 v25 v26 : Int) (v27 v28 : (List Int)) (v29 : cS) (v30 v31 : (List Int)) (v32 : Bool) (v33 : Int) (v34 v35 v36 v37 : (List Int)) (v38 : Int) (v39 : (List Int)) (v40 v41 v42 : Int) : Option (gJ) := if (v25 == 0) then (if (decide (v24 < 5)) then (if (decide (0 ≤ (wrap .i64 (v24 + 1))) && decide ((wrap .i64 (v24 + 1)) < 6)) then (F (v18, v19, v20, v21, v22, v23, (wrap .i64 (v24 + 1)), (v28.getD ((wrap .i64 (v24 + 1))).toNat 0), v26, v27, v28, v29, v30, v31, v32, v33, v34, v35, v36, v37, v38, v39, v40, v41, v42)) else none) else (some (v18, v19, v20, v21, v22, v23, v24, v25, v26, v27, v28, v29, v30, v31, v32, v33, v34, v35, v36, v37, v38, v39, v40, v41, v42))) else (some (v18, v19, v20, v21, v22, v23, v24, v25, v26, v27, v28, v29, v30, v31, v32, v33, v34, v35, v36, v37, v38, v39, v40, v41, v42))
def rg : gJ → Option (gJ) := it (fun F => (gD (eq (ed (C_ q_)))) (zF n F)) n
def vU : Loop := ⟨⟨dn 52 0 [(0, .obj 0), (2, .obj 1)], [i1, [.val (.arr 6 cL)], dP]⟩, [(.exit 0, ⟨dn 52 0 [], [i1, [.val (.arr 6 cL)], dP]⟩)], gJ, fun x => ((), (de (U_ v_)) x, (x.2.2.2.2.2.2.2.2.2.2.1, ()), (de (di (U_ u_))) x.2.2.2.2.2.2.2.2.2.2.2, ()), fun (x : tj) => (fD (J_ j_)) x.2.1 ((x.2.2.1.1, ((de (di (U_ k_))) x.2.2.2.1))), gJ, fun y => ((), (de (U_ v_)) y, (y.2.2.2.2.2.2.2.2.2.2.1, ()), (de (di (U_ u_))) y.2.2.2.2.2.2.2.2.2.2.2, ()), fun (o : tj) => (fD (J_ j_)) o.2.1 ((o.2.2.1.1, ((de (di (U_ k_))) o.2.2.2.1))), rg n⟩
def sJ (n : Nat) (F : AB → Option (xO)) (v70 : (List Int)) (v71 : Int) (v72 : (List Int)) (v73 v74 v75 v76 v77 v78 v79 v80 v81 : Int) (v82 : (List Int)) (v83 : cS) (v84 v85 : (List Int)) (v86 : Bool) (v87 : Int) (v88 v89 v90 v91 : (List Int)) (v92 : Int) (v93 : (List Int)) (v94 v95 v96 : Int) : Option (xO) := if (decide (v71 < 8)) then (if (decide (0 ≤ v71) && decide (v71 < 8)) then (if (decide ((v70.length + 1) * 8 ≤ 140737488355328) && decide (1 ≤ 8)) then (F ((v70 ++ [((wrap .i64 (v72.getD v71.toNat 0)).tmod 10)]), (wrap .i64 (v71 + 1)), v72, v73, v74, v75, v76, v77, v78, v79, v80, v81, v82, v83, v84, v85, v86, v87, v88, v89, v90, v91, v92, v93, v94, v95, v96)) else none) else none) else (some (v70, v72, v73, v74, v75, v76, v77, v78, v79, v80, v81, v82, v83, v84, v85, v86, v87, v88, v89, v90, v91, v92, v93, v94, v95, v96))
def nj : AB → Option (xO) := it (fun F => (gD (jP (C_ q_))) (sJ n F)) n
def vV : Loop := ⟨⟨dn 140 0 [(5, .obj 0), (9, .obj 1), (11, .row 3 cL), (12, .val cL)], [[.val (.arr 8 (.int .u8))], i1, dP]⟩, [(.exit 0, ⟨dn 140 0 [(9, .obj 1), (11, .row 3 cL)], [[.val (.arr 8 (.int .u8))], i1, dP]⟩)], AB, fun x => ((U_ v_) x, (x.2.2.1, ()), (de (U_ v_)) x.2.2.2, (de (di (U_ u_))) x.2.2.2.2.2.2.2.2.2.2.2.2.2, ()), fun (x : (((List Int) × Int × Unit) × (lV × w5 × sn × Unit))) => (J_ j_) x.1 ((x.2.1.1, ((fD (J_ j_)) x.2.2.1 ((de (di (U_ k_))) x.2.2.2.1)))), xO, fun y => ((y.1, ()), (y.2.1, ()), (de (U_ v_)) y.2.2, (de (di (U_ u_))) y.2.2.2.2.2.2.2.2.2.2.2.2, ()), fun (o : (lV × (lV × w5 × sn × Unit))) => (o.1.1, ((o.2.1.1, ((fD (J_ j_)) o.2.2.1 ((de (di (U_ k_))) o.2.2.2.1))))), nj n⟩
def my (n : Nat) (v103 : (List Int)) (v104 v105 v106 v107 v108 v109 v110 v111 v112 v113 v114 : Int) (v115 : (List Int)) (v116 : (List (List Int))) (v117 v118 : Int) (v119 : Bool) (v120 : cS) (v121 v122 : (List Int)) (v123 : Bool) (v124 : Int) (v125 v126 v127 v128 : (List Int)) (v129 : Int) (v130 : (List Int)) (v131 v132 v133 : Int) : Option (w6) := if (v117 == 2) then (if decide (v118 < 0) then none else (some (v103, (wrap .i64 (v104 + (wrap .i64 (1 * 2 ^ (min v118.toNat 64))))), v105, v106, v107, v108, v109, v110, v111, v112, v113, v114, v115, v116, v117, v118, v119, v120, v121, v122, v123, v124, v125, v126, v127, v128, v129, v130, v131, v132, v133))) else (some (v103, v104, v105, v106, v107, v108, v109, v110, v111, v112, v113, v114, v115, v116, v117, v118, v119, v120, v121, v122, v123, v124, v125, v126, v127, v128, v129, v130, v131, v132, v133))
def rh : Loop := ⟨⟨dn 140 0 [(9, .obj 0), (11, .val eA), (13, .obj 1), (14, .val cL), (15, .val cL), (16, .obj 2)], [BT, [.val kg], [.val cL, .val cL, .val .bool], dP]⟩, [(.norm, ⟨dn 140 0 [(9, .obj 0), (11, .val eA), (13, .obj 1), (14, .val cL), (15, .val cL), (16, .obj 2)], [BT, [.val kg], [.val cL, .val cL, .val .bool], dP]⟩)], w6, fun x => ((dF v_) x, (de (U_ v_)) x.2.2.2, (x.2.2.2.2.2.2.2.2.2.2.2.2.2.1, ()), (dF v_) x.2.2.2.2.2.2.2.2.2.2.2.2.2.2, (de (di (U_ u_))) x.2.2.2.2.2.2.2.2.2.2.2.2.2.2.2.2.2, ()), fun (x : xQ) => (gI j_) x.1 ((fD (J_ j_)) x.2.1 ((x.2.2.1.1, ((gI j_) x.2.2.2.1 ((de (di (U_ k_))) x.2.2.2.2.1))))), w6, fun y => ((dF v_) y, (de (U_ v_)) y.2.2.2, (y.2.2.2.2.2.2.2.2.2.2.2.2.2.1, ()), (dF v_) y.2.2.2.2.2.2.2.2.2.2.2.2.2.2, (de (di (U_ u_))) y.2.2.2.2.2.2.2.2.2.2.2.2.2.2.2.2.2, ()), fun (o : xQ) => (gI j_) o.1 ((fD (J_ j_)) o.2.1 ((o.2.2.1.1, ((gI j_) o.2.2.2.1 ((de (di (U_ k_))) o.2.2.2.2.1))))), (gD (jP (eq (C_ q_)))) (my n)⟩
def mz (n : Nat) (v104 : (List Int)) (v105 v106 v107 v108 v109 v110 v111 v112 v113 v114 v115 : Int) (v116 : (List Int)) (v117 : (List (List Int))) (v118 v119 : Int) (v120 : Bool) (v121 : cS) (v122 v123 : (List Int)) (v124 : Bool) (v125 : Int) (v126 v127 v128 v129 : (List Int)) (v130 : Int) (v131 : (List Int)) (v132 v133 v134 : Int) : Option (w6) := if (v118 == 3) then (if decide (v119 < 0) then none else (some (v104, (wrap .i64 (v105 - (wrap .i64 (1 * 2 ^ (min v119.toNat 64))))), v106, v107, v108, v109, v110, v111, v112, v113, v114, v115, v116, v117, v118, v119, v120, v121, v122, v123, v124, v125, v126, v127, v128, v129, v130, v131, v132, v133, v134))) else (some (v104, v105, v106, v107, v108, v109, v110, v111, v112, v113, v114, v115, v116, v117, v118, v119, v120, v121, v122, v123, v124, v125, v126, v127, v128, v129, v130, v131, v132, v133, v134))
def ri : Loop := ⟨⟨dn 140 0 [(9, .obj 0), (11, .val eA), (13, .obj 1), (14, .val cL), (15, .val cL), (16, .obj 2)], [BT, [.val kg], [.val cL, .val cL, .val .bool], dP]⟩, [(.norm, ⟨dn 140 0 [(9, .obj 0), (11, .val eA), (13, .obj 1), (14, .val cL), (15, .val cL)], [BT, [.val kg], [.val cL, .val cL, .val .bool], dP]⟩)], w6, fun x => ((dF v_) x, (de (U_ v_)) x.2.2.2, (x.2.2.2.2.2.2.2.2.2.2.2.2.2.1, ()), (dF v_) x.2.2.2.2.2.2.2.2.2.2.2.2.2.2, (de (di (U_ u_))) x.2.2.2.2.2.2.2.2.2.2.2.2.2.2.2.2.2, ()), fun (x : xQ) => (gI j_) x.1 ((fD (J_ j_)) x.2.1 ((x.2.2.1.1, ((gI j_) x.2.2.2.1 ((de (di (U_ k_))) x.2.2.2.2.1))))), w6, fun y => ((dF v_) y, (de (U_ v_)) y.2.2.2, (y.2.2.2.2.2.2.2.2.2.2.2.2.2.1, ()), (dF v_) y.2.2.2.2.2.2.2.2.2.2.2.2.2.2, (de (di (U_ u_))) y.2.2.2.2.2.2.2.2.2.2.2.2.2.2.2.2.2, ()), fun (o : xQ) => (gI j_) o.1 ((fD (J_ j_)) o.2.1 ((o.2.2.1.1, ((gI j_) o.2.2.2.1 ((de (di (U_ k_))) o.2.2.2.2.1))))), (gD (jP (eq (C_ q_)))) (mz n)⟩
def sK (n : Nat) (F : Ay → Option (BU)) (v134 : (List Int)) (v135 v136 v137 v138 v139 v140 v141 v142 v143 v144 v145 v146 v147 : Int) (v148 : (List Int)) (v149 : (List (List Int))) (v150 : cS) (v151 v152 : (List Int)) (v153 : Bool) (v154 : Int) (v155 v156 v157 v158 : (List Int)) (v159 : Int) (v160 : (List Int)) (v161 v162 v163 : Int) : Option (BU) := if (decide (v138 < 8)) then (if decide (v138 < 0) then none else (if ((bits .and .i64 (v135.fdiv (2 ^ (min v138.toNat 64))) 1) == 1) then (if (decide (0 ≤ v138) && decide (v138 < (v134.length : Int))) then (F (v134, v135, v136, (if (v134.getD v138.toNat 0) > v137 then (v134.getD v138.toNat 0) else v137), (wrap .i64 (v138 + 1)), v139, v140, v141, v142, v143, v144, v145, v146, v147, v148, v149, v150, v151, v152, v153, v154, v155, v156, v157, v158, v159, v160, v161, v162, v163)) else none) else (F (v134, v135, v136, v137, (wrap .i64 (v138 + 1)), v139, v140, v141, v142, v143, v144, v145, v146, v147, v148, v149, v150, v151, v152, v153, v154, v155, v156, v157, v158, v159, v160, v161, v162, v163)))) else (some (v134, v135, v136, v137, v139, v140, v141, v142, v143, v144, v145, v146, v147, v148, v149, v150, v151, v152, v153, v154, v155, v156, v157, v158, v159, v160, v161, v162, v163))
def kT : Ay → Option (BU) := it (fun F => (gD (jP (eq q_))) (sK n F)) n
def vW : Loop := ⟨⟨dn 140 0 [(9, .obj 0), (11, .val eA), (13, .obj 1), (14, .val cL), (15, .val cL), (18, .val cL), (19, .val cL)], [i1, [.val kg], dP]⟩, [(.exit 4, ⟨dn 140 0 [(9, .obj 0), (11, .val eA), (13, .obj 1), (14, .val cL), (15, .val cL), (18, .val cL)], [i1, [.val kg], dP]⟩)], Ay, fun x => ((di v_) x, (de (U_ v_)) x.2.2.2.2.2, (x.2.2.2.2.2.2.2.2.2.2.2.2.2.2.2.1, ()), (de (di (U_ u_))) x.2.2.2.2.2.2.2.2.2.2.2.2.2.2.2.2, ()), fun (x : (((List Int) × Int × Int × Int × Int × Unit) × nG)) => (sk j_) x.1 ((fD (J_ j_)) x.2.1 ((x.2.2.1.1, ((de (di (U_ k_))) x.2.2.2.1)))), BU, fun y => ((dF (U_ v_)) y, (de (U_ v_)) y.2.2.2.2, (y.2.2.2.2.2.2.2.2.2.2.2.2.2.2.1, ()), (de (di (U_ u_))) y.2.2.2.2.2.2.2.2.2.2.2.2.2.2.2, ()), fun (o : (((List Int) × Int × Int × Int × Unit) × nG)) => (gI (J_ j_)) o.1 ((fD (J_ j_)) o.2.1 ((o.2.2.1.1, ((de (di (U_ k_))) o.2.2.2.1)))), kT n⟩
def sL (F : AA → Option (x9)) (v45 : (List Int)) (v46 v47 v48 v49 v50 v51 v52 v53 v54 v55 v56 : Int) (v57 : (List Int)) (v58 : (List (List Int))) (v59 : cS) (v60 v61 : (List Int)) (v62 : Bool) (v63 : Int) (v64 v65 v66 v67 : (List Int)) (v68 : Int) (v69 : (List Int)) (v70 v71 v72 : Int) : Option (x9) := if (decide (v47 < 600)) then ((eZ n v48 v49 v50 v51 v52 v53 v54 v55 v56 v57 v59 v60 v61 v62 v63 v64 v65 v66 v67 v68 v69 v70 v71 v72).bind fun y73 => (if (!y73.1) then ((sI n ([0, 0, 0, 0, 0, 0, 0, 0, 0, 0, 0, 0, 0, 0, 0, 0]) y73.2.1 y73.2.2.1 y73.2.2.2.1 y73.2.2.2.2.1 y73.2.2.2.2.2.1 y73.2.2.2.2.2.2.1 y73.2.2.2.2.2.2.2.1 y73.2.2.2.2.2.2.2.2.1 y73.2.2.2.2.2.2.2.2.2.1 y73.2.2.2.2.2.2.2.2.2.2.1 v58 y73.2.2.2.2.2.2.2.2.2.2.2.1 y73.2.2.2.2.2.2.2.2.2.2.2.2.1 y73.2.2.2.2.2.2.2.2.2.2.2.2.2.1 y73.2.2.2.2.2.2.2.2.2.2.2.2.2.2.1 y73.2.2.2.2.2.2.2.2.2.2.2.2.2.2.2.1 y73.2.2.2.2.2.2.2.2.2.2.2.2.2.2.2.2.1 y73.2.2.2.2.2.2.2.2.2.2.2.2.2.2.2.2.2.1 y73.2.2.2.2.2.2.2.2.2.2.2.2.2.2.2.2.2.2.1 y73.2.2.2.2.2.2.2.2.2.2.2.2.2.2.2.2.2.2.2.1 y73.2.2.2.2.2.2.2.2.2.2.2.2.2.2.2.2.2.2.2.2.1 y73.2.2.2.2.2.2.2.2.2.2.2.2.2.2.2.2.2.2.2.2.2.1 y73.2.2.2.2.2.2.2.2.2.2.2.2.2.2.2.2.2.2.2.2.2.2.1 y73.2.2.2.2.2.2.2.2.2.2.2.2.2.2.2.2.2.2.2.2.2.2.2.1 y73.2.2.2.2.2.2.2.2.2.2.2.2.2.2.2.2.2.2.2.2.2.2.2.2).bind fun y74 => (if (y74.2.1 != 0) then (some (.inl ((false, ()), ((y74.2.2.1, y74.2.2.2.1, y74.2.2.2.2.1, y74.2.2.2.2.2.1, y74.2.2.2.2.2.2.1, y74.2.2.2.2.2.2.2.1, y74.2.2.2.2.2.2.2.2.1, y74.2.2.2.2.2.2.2.2.2.1, y74.2.2.2.2.2.2.2.2.2.2.1, y74.2.2.2.2.2.2.2.2.2.2.2.1, ()), (y74.2.2.2.2.2.2.2.2.2.2.2.2.1, ()), (y74.2.2.2.2.2.2.2.2.2.2.2.2.2.1, y74.2.2.2.2.2.2.2.2.2.2.2.2.2.2.1, y74.2.2.2.2.2.2.2.2.2.2.2.2.2.2.2.1, y74.2.2.2.2.2.2.2.2.2.2.2.2.2.2.2.2.1, y74.2.2.2.2.2.2.2.2.2.2.2.2.2.2.2.2.2.1, y74.2.2.2.2.2.2.2.2.2.2.2.2.2.2.2.2.2.2.1, y74.2.2.2.2.2.2.2.2.2.2.2.2.2.2.2.2.2.2.2.1, y74.2.2.2.2.2.2.2.2.2.2.2.2.2.2.2.2.2.2.2.2.1, y74.2.2.2.2.2.2.2.2.2.2.2.2.2.2.2.2.2.2.2.2.2.1, y74.2.2.2.2.2.2.2.2.2.2.2.2.2.2.2.2.2.2.2.2.2.2.1, y74.2.2.2.2.2.2.2.2.2.2.2.2.2.2.2.2.2.2.2.2.2.2.2.1, y74.2.2.2.2.2.2.2.2.2.2.2.2.2.2.2.2.2.2.2.2.2.2.2.2.1, y74.2.2.2.2.2.2.2.2.2.2.2.2.2.2.2.2.2.2.2.2.2.2.2.2.2.1, y74.2.2.2.2.2.2.2.2.2.2.2.2.2.2.2.2.2.2.2.2.2.2.2.2.2.2, ()), ())))) else (if (decide (y74.1.2.1 < 0)) then (some (.inl ((false, ()), ((y74.2.2.1, y74.2.2.2.1, y74.2.2.2.2.1, y74.2.2.2.2.2.1, y74.2.2.2.2.2.2.1, y74.2.2.2.2.2.2.2.1, y74.2.2.2.2.2.2.2.2.1, y74.2.2.2.2.2.2.2.2.2.1, y74.2.2.2.2.2.2.2.2.2.2.1, y74.2.2.2.2.2.2.2.2.2.2.2.1, ()), (y74.2.2.2.2.2.2.2.2.2.2.2.2.1, ()), (y74.2.2.2.2.2.2.2.2.2.2.2.2.2.1, y74.2.2.2.2.2.2.2.2.2.2.2.2.2.2.1, y74.2.2.2.2.2.2.2.2.2.2.2.2.2.2.2.1, y74.2.2.2.2.2.2.2.2.2.2.2.2.2.2.2.2.1, y74.2.2.2.2.2.2.2.2.2.2.2.2.2.2.2.2.2.1, y74.2.2.2.2.2.2.2.2.2.2.2.2.2.2.2.2.2.2.1, y74.2.2.2.2.2.2.2.2.2.2.2.2.2.2.2.2.2.2.2.1, y74.2.2.2.2.2.2.2.2.2.2.2.2.2.2.2.2.2.2.2.2.1, y74.2.2.2.2.2.2.2.2.2.2.2.2.2.2.2.2.2.2.2.2.2.1, y74.2.2.2.2.2.2.2.2.2.2.2.2.2.2.2.2.2.2.2.2.2.2.1, y74.2.2.2.2.2.2.2.2.2.2.2.2.2.2.2.2.2.2.2.2.2.2.2.1, y74.2.2.2.2.2.2.2.2.2.2.2.2.2.2.2.2.2.2.2.2.2.2.2.2.1, y74.2.2.2.2.2.2.2.2.2.2.2.2.2.2.2.2.2.2.2.2.2.2.2.2.2.1, y74.2.2.2.2.2.2.2.2.2.2.2.2.2.2.2.2.2.2.2.2.2.2.2.2.2.2, ()), ())))) else (if (decide (y74.1.2.1 > 7)) then (some (.inl ((false, ()), ((y74.2.2.1, y74.2.2.2.1, y74.2.2.2.2.1, y74.2.2.2.2.2.1, y74.2.2.2.2.2.2.1, y74.2.2.2.2.2.2.2.1, y74.2.2.2.2.2.2.2.2.1, y74.2.2.2.2.2.2.2.2.2.1, y74.2.2.2.2.2.2.2.2.2.2.1, y74.2.2.2.2.2.2.2.2.2.2.2.1, ()), (y74.2.2.2.2.2.2.2.2.2.2.2.2.1, ()), (y74.2.2.2.2.2.2.2.2.2.2.2.2.2.1, y74.2.2.2.2.2.2.2.2.2.2.2.2.2.2.1, y74.2.2.2.2.2.2.2.2.2.2.2.2.2.2.2.1, y74.2.2.2.2.2.2.2.2.2.2.2.2.2.2.2.2.1, y74.2.2.2.2.2.2.2.2.2.2.2.2.2.2.2.2.2.1, y74.2.2.2.2.2.2.2.2.2.2.2.2.2.2.2.2.2.2.1, y74.2.2.2.2.2.2.2.2.2.2.2.2.2.2.2.2.2.2.2.1, y74.2.2.2.2.2.2.2.2.2.2.2.2.2.2.2.2.2.2.2.2.1, y74.2.2.2.2.2.2.2.2.2.2.2.2.2.2.2.2.2.2.2.2.2.1, y74.2.2.2.2.2.2.2.2.2.2.2.2.2.2.2.2.2.2.2.2.2.2.1, y74.2.2.2.2.2.2.2.2.2.2.2.2.2.2.2.2.2.2.2.2.2.2.2.1, y74.2.2.2.2.2.2.2.2.2.2.2.2.2.2.2.2.2.2.2.2.2.2.2.2.1, y74.2.2.2.2.2.2.2.2.2.2.2.2.2.2.2.2.2.2.2.2.2.2.2.2.2.1, y74.2.2.2.2.2.2.2.2.2.2.2.2.2.2.2.2.2.2.2.2.2.2.2.2.2.2, ()), ())))) else ((my n v45 v46 v47 y74.2.2.1 y74.2.2.2.1 y74.2.2.2.2.1 y74.2.2.2.2.2.1 y74.2.2.2.2.2.2.1 y74.2.2.2.2.2.2.2.1 y74.2.2.2.2.2.2.2.2.1 y74.2.2.2.2.2.2.2.2.2.1 y74.2.2.2.2.2.2.2.2.2.2.1 y74.2.2.2.2.2.2.2.2.2.2.2.1 y74.2.2.2.2.2.2.2.2.2.2.2.2.1 y74.1.1 y74.1.2.1 y74.1.2.2 y74.2.2.2.2.2.2.2.2.2.2.2.2.2.1 y74.2.2.2.2.2.2.2.2.2.2.2.2.2.2.1 y74.2.2.2.2.2.2.2.2.2.2.2.2.2.2.2.1 y74.2.2.2.2.2.2.2.2.2.2.2.2.2.2.2.2.1 y74.2.2.2.2.2.2.2.2.2.2.2.2.2.2.2.2.2.1 y74.2.2.2.2.2.2.2.2.2.2.2.2.2.2.2.2.2.2.1 y74.2.2.2.2.2.2.2.2.2.2.2.2.2.2.2.2.2.2.2.1 y74.2.2.2.2.2.2.2.2.2.2.2.2.2.2.2.2.2.2.2.2.1 y74.2.2.2.2.2.2.2.2.2.2.2.2.2.2.2.2.2.2.2.2.2.1 y74.2.2.2.2.2.2.2.2.2.2.2.2.2.2.2.2.2.2.2.2.2.2.1 y74.2.2.2.2.2.2.2.2.2.2.2.2.2.2.2.2.2.2.2.2.2.2.2.1 y74.2.2.2.2.2.2.2.2.2.2.2.2.2.2.2.2.2.2.2.2.2.2.2.2.1 y74.2.2.2.2.2.2.2.2.2.2.2.2.2.2.2.2.2.2.2.2.2.2.2.2.2.1 y74.2.2.2.2.2.2.2.2.2.2.2.2.2.2.2.2.2.2.2.2.2.2.2.2.2.2).bind fun y75 => ((mz n y75.1 y75.2.1 y75.2.2.1 y75.2.2.2.1 y75.2.2.2.2.1 y75.2.2.2.2.2.1 y75.2.2.2.2.2.2.1 y75.2.2.2.2.2.2.2.1 y75.2.2.2.2.2.2.2.2.1 y75.2.2.2.2.2.2.2.2.2.1 y75.2.2.2.2.2.2.2.2.2.2.1 y75.2.2.2.2.2.2.2.2.2.2.2.1 y75.2.2.2.2.2.2.2.2.2.2.2.2.1 y75.2.2.2.2.2.2.2.2.2.2.2.2.2.1 y75.2.2.2.2.2.2.2.2.2.2.2.2.2.2.1 y75.2.2.2.2.2.2.2.2.2.2.2.2.2.2.2.1 y75.2.2.2.2.2.2.2.2.2.2.2.2.2.2.2.2.1 y75.2.2.2.2.2.2.2.2.2.2.2.2.2.2.2.2.2.1 y75.2.2.2.2.2.2.2.2.2.2.2.2.2.2.2.2.2.2.1 y75.2.2.2.2.2.2.2.2.2.2.2.2.2.2.2.2.2.2.2.1 y75.2.2.2.2.2.2.2.2.2.2.2.2.2.2.2.2.2.2.2.2.1 y75.2.2.2.2.2.2.2.2.2.2.2.2.2.2.2.2.2.2.2.2.2.1 y75.2.2.2.2.2.2.2.2.2.2.2.2.2.2.2.2.2.2.2.2.2.2.1 y75.2.2.2.2.2.2.2.2.2.2.2.2.2.2.2.2.2.2.2.2.2.2.2.1 y75.2.2.2.2.2.2.2.2.2.2.2.2.2.2.2.2.2.2.2.2.2.2.2.2.1 y75.2.2.2.2.2.2.2.2.2.2.2.2.2.2.2.2.2.2.2.2.2.2.2.2.2.1 y75.2.2.2.2.2.2.2.2.2.2.2.2.2.2.2.2.2.2.2.2.2.2.2.2.2.2.1 y75.2.2.2.2.2.2.2.2.2.2.2.2.2.2.2.2.2.2.2.2.2.2.2.2.2.2.2.1 y75.2.2.2.2.2.2.2.2.2.2.2.2.2.2.2.2.2.2.2.2.2.2.2.2.2.2.2.2.1 y75.2.2.2.2.2.2.2.2.2.2.2.2.2.2.2.2.2.2.2.2.2.2.2.2.2.2.2.2.2.1 y75.2.2.2.2.2.2.2.2.2.2.2.2.2.2.2.2.2.2.2.2.2.2.2.2.2.2.2.2.2.2).bind fun y76 => ((kT n (y76.1, y76.2.1, y76.2.2.1, 4, 0, y76.2.2.2.1, y76.2.2.2.2.1, y76.2.2.2.2.2.1, y76.2.2.2.2.2.2.1, y76.2.2.2.2.2.2.2.1, y76.2.2.2.2.2.2.2.2.1, y76.2.2.2.2.2.2.2.2.2.1, y76.2.2.2.2.2.2.2.2.2.2.1, y76.2.2.2.2.2.2.2.2.2.2.2.1, y76.2.2.2.2.2.2.2.2.2.2.2.2.1, y76.2.2.2.2.2.2.2.2.2.2.2.2.2.1, y76.2.2.2.2.2.2.2.2.2.2.2.2.2.2.2.2.2.1, y76.2.2.2.2.2.2.2.2.2.2.2.2.2.2.2.2.2.2.1, y76.2.2.2.2.2.2.2.2.2.2.2.2.2.2.2.2.2.2.2.1, y76.2.2.2.2.2.2.2.2.2.2.2.2.2.2.2.2.2.2.2.2.1, y76.2.2.2.2.2.2.2.2.2.2.2.2.2.2.2.2.2.2.2.2.2.1, y76.2.2.2.2.2.2.2.2.2.2.2.2.2.2.2.2.2.2.2.2.2.2.1, y76.2.2.2.2.2.2.2.2.2.2.2.2.2.2.2.2.2.2.2.2.2.2.2.1, y76.2.2.2.2.2.2.2.2.2.2.2.2.2.2.2.2.2.2.2.2.2.2.2.2.1, y76.2.2.2.2.2.2.2.2.2.2.2.2.2.2.2.2.2.2.2.2.2.2.2.2.2.1, y76.2.2.2.2.2.2.2.2.2.2.2.2.2.2.2.2.2.2.2.2.2.2.2.2.2.2.1, y76.2.2.2.2.2.2.2.2.2.2.2.2.2.2.2.2.2.2.2.2.2.2.2.2.2.2.2.1, y76.2.2.2.2.2.2.2.2.2.2.2.2.2.2.2.2.2.2.2.2.2.2.2.2.2.2.2.2.1, y76.2.2.2.2.2.2.2.2.2.2.2.2.2.2.2.2.2.2.2.2.2.2.2.2.2.2.2.2.2.1, y76.2.2.2.2.2.2.2.2.2.2.2.2.2.2.2.2.2.2.2.2.2.2.2.2.2.2.2.2.2.2)).bind fun y77 => ((fQ n y77.2.2.2.2.1 y77.2.2.2.2.2.1 y77.2.2.2.2.2.2.1 y77.2.2.2.2.2.2.2.1 y77.2.2.2.2.2.2.2.2.1 y77.2.2.2.2.2.2.2.2.2.1 y77.2.2.2.2.2.2.2.2.2.2.1 y77.2.2.2.2.2.2.2.2.2.2.2.1 y77.2.2.2.2.2.2.2.2.2.2.2.2.1 y77.2.2.2.2.2.2.2.2.2.2.2.2.2.1 y77.2.2.2.2.2.2.2.2.2.2.2.2.2.2.2.1 y77.2.2.2.2.2.2.2.2.2.2.2.2.2.2.2.2.1 y77.2.2.2.2.2.2.2.2.2.2.2.2.2.2.2.2.2.1 y77.2.2.2.2.2.2.2.2.2.2.2.2.2.2.2.2.2.2.1 y77.2.2.2.2.2.2.2.2.2.2.2.2.2.2.2.2.2.2.2.1 y77.2.2.2.2.2.2.2.2.2.2.2.2.2.2.2.2.2.2.2.2.1 y77.2.2.2.2.2.2.2.2.2.2.2.2.2.2.2.2.2.2.2.2.2.1 y77.2.2.2.2.2.2.2.2.2.2.2.2.2.2.2.2.2.2.2.2.2.2.1 y77.2.2.2.2.2.2.2.2.2.2.2.2.2.2.2.2.2.2.2.2.2.2.2.1 y77.2.2.2.2.2.2.2.2.2.2.2.2.2.2.2.2.2.2.2.2.2.2.2.2.1 y77.2.2.2.2.2.2.2.2.2.2.2.2.2.2.2.2.2.2.2.2.2.2.2.2.2.1 y77.2.2.2.2.2.2.2.2.2.2.2.2.2.2.2.2.2.2.2.2.2.2.2.2.2.2.1 y77.2.2.2.2.2.2.2.2.2.2.2.2.2.2.2.2.2.2.2.2.2.2.2.2.2.2.2.1 y77.2.2.2.2.2.2.2.2.2.2.2.2.2.2.2.2.2.2.2.2.2.2.2.2.2.2.2.2).bind fun y78 => (if (y78.1 != y77.2.1) then (some (.inl ((false, ()), ((y78.2.1, y78.2.2.1, y78.2.2.2.1, y78.2.2.2.2.1, y78.2.2.2.2.2.1, y78.2.2.2.2.2.2.1, y78.2.2.2.2.2.2.2.1, y78.2.2.2.2.2.2.2.2.1, y78.2.2.2.2.2.2.2.2.2.1, y78.2.2.2.2.2.2.2.2.2.2.1, ()), (y77.2.2.2.2.2.2.2.2.2.2.2.2.2.2.1, ()), (y78.2.2.2.2.2.2.2.2.2.2.2.1, y78.2.2.2.2.2.2.2.2.2.2.2.2.1, y78.2.2.2.2.2.2.2.2.2.2.2.2.2.1, y78.2.2.2.2.2.2.2.2.2.2.2.2.2.2.1, y78.2.2.2.2.2.2.2.2.2.2.2.2.2.2.2.1, y78.2.2.2.2.2.2.2.2.2.2.2.2.2.2.2.2.1, y78.2.2.2.2.2.2.2.2.2.2.2.2.2.2.2.2.2.1, y78.2.2.2.2.2.2.2.2.2.2.2.2.2.2.2.2.2.2.1, y78.2.2.2.2.2.2.2.2.2.2.2.2.2.2.2.2.2.2.2.1, y78.2.2.2.2.2.2.2.2.2.2.2.2.2.2.2.2.2.2.2.2.1, y78.2.2.2.2.2.2.2.2.2.2.2.2.2.2.2.2.2.2.2.2.2.1, y78.2.2.2.2.2.2.2.2.2.2.2.2.2.2.2.2.2.2.2.2.2.2.1, y78.2.2.2.2.2.2.2.2.2.2.2.2.2.2.2.2.2.2.2.2.2.2.2.1, y78.2.2.2.2.2.2.2.2.2.2.2.2.2.2.2.2.2.2.2.2.2.2.2.2, ()), ())))) else ((eu n y78.2.1 y78.2.2.1 y78.2.2.2.1 y78.2.2.2.2.1 y78.2.2.2.2.2.1 y78.2.2.2.2.2.2.1 y78.2.2.2.2.2.2.2.1 y78.2.2.2.2.2.2.2.2.1 y78.2.2.2.2.2.2.2.2.2.1 y78.2.2.2.2.2.2.2.2.2.2.1 y78.2.2.2.2.2.2.2.2.2.2.2.1 y78.2.2.2.2.2.2.2.2.2.2.2.2.1 y78.2.2.2.2.2.2.2.2.2.2.2.2.2.1 y78.2.2.2.2.2.2.2.2.2.2.2.2.2.2.1 y78.2.2.2.2.2.2.2.2.2.2.2.2.2.2.2.1 y78.2.2.2.2.2.2.2.2.2.2.2.2.2.2.2.2.1 y78.2.2.2.2.2.2.2.2.2.2.2.2.2.2.2.2.2.1 y78.2.2.2.2.2.2.2.2.2.2.2.2.2.2.2.2.2.2.1 y78.2.2.2.2.2.2.2.2.2.2.2.2.2.2.2.2.2.2.2.1 y78.2.2.2.2.2.2.2.2.2.2.2.2.2.2.2.2.2.2.2.2.1 y78.2.2.2.2.2.2.2.2.2.2.2.2.2.2.2.2.2.2.2.2.2.1 y78.2.2.2.2.2.2.2.2.2.2.2.2.2.2.2.2.2.2.2.2.2.2.1 y78.2.2.2.2.2.2.2.2.2.2.2.2.2.2.2.2.2.2.2.2.2.2.2.1 y78.2.2.2.2.2.2.2.2.2.2.2.2.2.2.2.2.2.2.2.2.2.2.2.2).bind fun y79 => ((fY n y78.2.2.1 y79 y77.1).bind fun y80 => (if (y80 != y77.2.2.2.1) then (some (.inl ((false, ()), ((y78.2.1, y78.2.2.1, y78.2.2.2.1, y78.2.2.2.2.1, y78.2.2.2.2.2.1, y78.2.2.2.2.2.2.1, y78.2.2.2.2.2.2.2.1, y78.2.2.2.2.2.2.2.2.1, y78.2.2.2.2.2.2.2.2.2.1, y78.2.2.2.2.2.2.2.2.2.2.1, ()), (y77.2.2.2.2.2.2.2.2.2.2.2.2.2.2.1, ()), (y78.2.2.2.2.2.2.2.2.2.2.2.1, y78.2.2.2.2.2.2.2.2.2.2.2.2.1, y78.2.2.2.2.2.2.2.2.2.2.2.2.2.1, y78.2.2.2.2.2.2.2.2.2.2.2.2.2.2.1, y78.2.2.2.2.2.2.2.2.2.2.2.2.2.2.2.1, y78.2.2.2.2.2.2.2.2.2.2.2.2.2.2.2.2.1, y78.2.2.2.2.2.2.2.2.2.2.2.2.2.2.2.2.2.1, y78.2.2.2.2.2.2.2.2.2.2.2.2.2.2.2.2.2.2.1, y78.2.2.2.2.2.2.2.2.2.2.2.2.2.2.2.2.2.2.2.1, y78.2.2.2.2.2.2.2.2.2.2.2.2.2.2.2.2.2.2.2.2.1, y78.2.2.2.2.2.2.2.2.2.2.2.2.2.2.2.2.2.2.2.2.2.1, y78.2.2.2.2.2.2.2.2.2.2.2.2.2.2.2.2.2.2.2.2.2.2.1, y78.2.2.2.2.2.2.2.2.2.2.2.2.2.2.2.2.2.2.2.2.2.2.2.1, y78.2.2.2.2.2.2.2.2.2.2.2.2.2.2.2.2.2.2.2.2.2.2.2.2, ()), ())))) else (F (y77.1, y77.2.1, (wrap .i64 (y77.2.2.1 + 1)), y78.2.1, y78.2.2.1, y78.2.2.2.1, y78.2.2.2.2.1, y78.2.2.2.2.2.1, y78.2.2.2.2.2.2.1, y78.2.2.2.2.2.2.2.1, y78.2.2.2.2.2.2.2.2.1, y78.2.2.2.2.2.2.2.2.2.1, y78.2.2.2.2.2.2.2.2.2.2.1, y77.2.2.2.2.2.2.2.2.2.2.2.2.2.2.1, y78.2.2.2.2.2.2.2.2.2.2.2.1, y78.2.2.2.2.2.2.2.2.2.2.2.2.1, y78.2.2.2.2.2.2.2.2.2.2.2.2.2.1, y78.2.2.2.2.2.2.2.2.2.2.2.2.2.2.1, y78.2.2.2.2.2.2.2.2.2.2.2.2.2.2.2.1, y78.2.2.2.2.2.2.2.2.2.2.2.2.2.2.2.2.1, y78.2.2.2.2.2.2.2.2.2.2.2.2.2.2.2.2.2.1, y78.2.2.2.2.2.2.2.2.2.2.2.2.2.2.2.2.2.2.1, y78.2.2.2.2.2.2.2.2.2.2.2.2.2.2.2.2.2.2.2.1, y78.2.2.2.2.2.2.2.2.2.2.2.2.2.2.2.2.2.2.2.2.1, y78.2.2.2.2.2.2.2.2.2.2.2.2.2.2.2.2.2.2.2.2.2.1, y78.2.2.2.2.2.2.2.2.2.2.2.2.2.2.2.2.2.2.2.2.2.2.1, y78.2.2.2.2.2.2.2.2.2.2.2.2.2.2.2.2.2.2.2.2.2.2.2.1, y78.2.2.2.2.2.2.2.2.2.2.2.2.2.2.2.2.2.2.2.2.2.2.2.2)))))))))))))) else (some (.inr ((), ((y73.2.1, y73.2.2.1, y73.2.2.2.1, y73.2.2.2.2.1, y73.2.2.2.2.2.1, y73.2.2.2.2.2.2.1, y73.2.2.2.2.2.2.2.1, y73.2.2.2.2.2.2.2.2.1, y73.2.2.2.2.2.2.2.2.2.1, y73.2.2.2.2.2.2.2.2.2.2.1, ()), (v58, ()), (y73.2.2.2.2.2.2.2.2.2.2.2.1, y73.2.2.2.2.2.2.2.2.2.2.2.2.1, y73.2.2.2.2.2.2.2.2.2.2.2.2.2.1, y73.2.2.2.2.2.2.2.2.2.2.2.2.2.2.1, y73.2.2.2.2.2.2.2.2.2.2.2.2.2.2.2.1, y73.2.2.2.2.2.2.2.2.2.2.2.2.2.2.2.2.1, y73.2.2.2.2.2.2.2.2.2.2.2.2.2.2.2.2.2.1, y73.2.2.2.2.2.2.2.2.2.2.2.2.2.2.2.2.2.2.1, y73.2.2.2.2.2.2.2.2.2.2.2.2.2.2.2.2.2.2.2.1, y73.2.2.2.2.2.2.2.2.2.2.2.2.2.2.2.2.2.2.2.2.1, y73.2.2.2.2.2.2.2.2.2.2.2.2.2.2.2.2.2.2.2.2.2.1, y73.2.2.2.2.2.2.2.2.2.2.2.2.2.2.2.2.2.2.2.2.2.2.1, y73.2.2.2.2.2.2.2.2.2.2.2.2.2.2.2.2.2.2.2.2.2.2.2.1, y73.2.2.2.2.2.2.2.2.2.2.2.2.2.2.2.2.2.2.2.2.2.2.2.2, ()), ())))))) else (some (.inr ((), ((v48, v49, v50, v51, v52, v53, v54, v55, v56, v57, ()), (v58, ()), (v59, v60, v61, v62, v63, v64, v65, v66, v67, v68, v69, v70, v71, v72, ()), ()))))
def rj : AA → Option (x9) := it (fun F => (gD (jP (ed q_))) (sL n F)) n
def vX : Loop := ⟨⟨dn 140 0 [(9, .obj 0), (11, .val eA), (13, .obj 1), (14, .val cL), (15, .val cL)], [i1, [.val kg], dP]⟩, [(.ret, ⟨dn 140 0 [(6, .val .bool)], [i1, [.val kg], dP]⟩), (.exit 2, ⟨dn 140 0 [], [i1, [.val kg], dP]⟩)], AA, fun x => ((dF v_) x, (de (U_ v_)) x.2.2.2, (x.2.2.2.2.2.2.2.2.2.2.2.2.2.1, ()), (de (di (U_ u_))) x.2.2.2.2.2.2.2.2.2.2.2.2.2.2, ()), fun (x : (((List Int) × Int × Int × Unit) × nG)) => (gI j_) x.1 ((fD (J_ j_)) x.2.1 ((x.2.2.1.1, ((de (di (U_ k_))) x.2.2.2.1)))), x9, fun y => y, fun y => y, rj n⟩
def yd (a0 : cS) (a1 : f6) (a2 : (List Int)) : Option Bool := if (decide ((a0.length : Int) > 200)) then ((fR n ).bind fun y1 => (some y1)) else ((iP n a0).bind fun y2 => (if (y2.2 != 0) then (if (y2.2 != 0) then (if (y2.2 == 0) then ((fR n ).bind fun y3 => (some y3)) else ((fR n ).bind fun y4 => (some y4))) else (if (y2.2 == 0) then ((fR n ).bind fun y5 => (some y5)) else ((fR n ).bind fun y6 => (some y6)))) else ((uJ n a0).bind fun y7 => (if (y7.2 != 0) then (if (y7.2 != 0) then (if (y7.2 == 0) then ((fR n ).bind fun y8 => (some y8)) else ((fR n ).bind fun y9 => (some y9))) else (if (y7.2 == 0) then ((fR n ).bind fun y10 => (some y10)) else ((fR n ).bind fun y11 => (some y11)))) else ((gg n a0).bind fun y12 => (if (decide (0 = 0) && decide (0 = 0) && decide (a0.length * 24 ≤ 140737488355328) && decide (1 ≤ 24)) then (if (!(decide ((a0.length : Int) > 0))) then ((fR n ).bind fun y13 => (some y13)) else ((fO n a0 y12.1 ([0, 0, 0, 0, 0, 0, 0, 0]) false 0 ([]) ([0, 0, 0, 0, 0, 0, 0, 0]) ([0, 0, 0, 0, 0, 0, 0, 0, 0, 0, 0, 0, 0, 0, 0, 0]) ([0, 0, 0, 0, 0, 0, 0, 0, 0, 0, 0, 0, 0, 0, 0, 0]) 0 ([]) 0 0 0).bind fun y14 => (if y14.1 then ((fR n ).bind fun y15 => (some y15)) else ((fq n (a1.1, (a1.2.1, a1.2.2))).bind fun y16 => (if (!y16) then ((fR n ).bind fun y17 => (some y17)) else ((rg n (0, 4, 0, a1.1, a1.2.1, a1.2.2, 0, a1.1, 0, [0, 0, 0, 0, 0, 0, 0, 0, 0, 0, 0, 0, 0, 0, 0, 0], [a1.1, a1.2.1, 1, a1.2.2, a1.1, 1], y14.2.1, y14.2.2.1, y14.2.2.2.1, y14.2.2.2.2.1, y14.2.2.2.2.2.1, y14.2.2.2.2.2.2.1, y14.2.2.2.2.2.2.2.1, y14.2.2.2.2.2.2.2.2.1, y14.2.2.2.2.2.2.2.2.2.1, y14.2.2.2.2.2.2.2.2.2.2.1, y14.2.2.2.2.2.2.2.2.2.2.2.1, y14.2.2.2.2.2.2.2.2.2.2.2.2.1, y14.2.2.2.2.2.2.2.2.2.2.2.2.2.1, y14.2.2.2.2.2.2.2.2.2.2.2.2.2.2)).bind fun y43 => ((nj n ([], 0, a2, y43.1, y43.2.1, y43.2.2.1, y43.2.2.2.1, y43.2.2.2.2.1, y43.2.2.2.2.2.1, y43.2.2.2.2.2.2.1, y43.2.2.2.2.2.2.2.1, y43.2.2.2.2.2.2.2.2.1, y43.2.2.2.2.2.2.2.2.2.1, y43.2.2.2.2.2.2.2.2.2.2.2.1, y43.2.2.2.2.2.2.2.2.2.2.2.2.1, y43.2.2.2.2.2.2.2.2.2.2.2.2.2.1, y43.2.2.2.2.2.2.2.2.2.2.2.2.2.2.1, y43.2.2.2.2.2.2.2.2.2.2.2.2.2.2.2.1, y43.2.2.2.2.2.2.2.2.2.2.2.2.2.2.2.2.1, y43.2.2.2.2.2.2.2.2.2.2.2.2.2.2.2.2.2.1, y43.2.2.2.2.2.2.2.2.2.2.2.2.2.2.2.2.2.2.1, y43.2.2.2.2.2.2.2.2.2.2.2.2.2.2.2.2.2.2.2.1, y43.2.2.2.2.2.2.2.2.2.2.2.2.2.2.2.2.2.2.2.2.1, y43.2.2.2.2.2.2.2.2.2.2.2.2.2.2.2.2.2.2.2.2.2.1, y43.2.2.2.2.2.2.2.2.2.2.2.2.2.2.2.2.2.2.2.2.2.2.1, y43.2.2.2.2.2.2.2.2.2.2.2.2.2.2.2.2.2.2.2.2.2.2.2.1, y43.2.2.2.2.2.2.2.2.2.2.2.2.2.2.2.2.2.2.2.2.2.2.2.2)).bind fun y44 => ((rj n (y44.1, 0, 0, y44.2.2.1, y44.2.2.2.1, y44.2.2.2.2.1, y44.2.2.2.2.2.1, y44.2.2.2.2.2.2.1, y44.2.2.2.2.2.2.2.1, y44.2.2.2.2.2.2.2.2.1, y44.2.2.2.2.2.2.2.2.2.1, y44.2.2.2.2.2.2.2.2.2.2.1, y44.2.2.2.2.2.2.2.2.2.2.2.1, [[0, 0, 0, 0, 0, 0, 0, 0], [0, 0, 0, 0, 0, 0, 0, 0], [0, 0, 0, 0, 0, 0, 0, 0], [0, 0, 0, 0, 0, 0, 0, 0], [0, 0, 0, 0, 0, 0, 0, 0], [0, 0, 0, 0, 0, 0, 0, 0], [0, 0, 0, 0, 0, 0, 0, 0], [0, 0, 0, 0, 0, 0, 0, 0]], y44.2.2.2.2.2.2.2.2.2.2.2.2.1, y44.2.2.2.2.2.2.2.2.2.2.2.2.2.1, y44.2.2.2.2.2.2.2.2.2.2.2.2.2.2.1, y44.2.2.2.2.2.2.2.2.2.2.2.2.2.2.2.1, y44.2.2.2.2.2.2.2.2.2.2.2.2.2.2.2.2.1, y44.2.2.2.2.2.2.2.2.2.2.2.2.2.2.2.2.2.1, y44.2.2.2.2.2.2.2.2.2.2.2.2.2.2.2.2.2.2.1, y44.2.2.2.2.2.2.2.2.2.2.2.2.2.2.2.2.2.2.2.1, y44.2.2.2.2.2.2.2.2.2.2.2.2.2.2.2.2.2.2.2.2.1, y44.2.2.2.2.2.2.2.2.2.2.2.2.2.2.2.2.2.2.2.2.2.1, y44.2.2.2.2.2.2.2.2.2.2.2.2.2.2.2.2.2.2.2.2.2.2.1, y44.2.2.2.2.2.2.2.2.2.2.2.2.2.2.2.2.2.2.2.2.2.2.2.1, y44.2.2.2.2.2.2.2.2.2.2.2.2.2.2.2.2.2.2.2.2.2.2.2.2.1, y44.2.2.2.2.2.2.2.2.2.2.2.2.2.2.2.2.2.2.2.2.2.2.2.2.2)).bind fun y81 => ((Sum.elim (fun (z82 : (kP × nG)) => (some z82.1.1)) (fun (z83 : (Unit × nG)) => ((fR n ).bind fun y84 => (some y84)))) y81))))))))) else none))))))
def vY : FS := ⟨⟨[.val er, .val gz, .val (.arr 8 (.int .u8))], []⟩, ⟨[.val .bool], []⟩, Bool, fun y => ((y, ()), ()), fun o => o.1.1, fun x => yd n x.1.1 x.1.2.1 x.1.2.2.1⟩
theorem Bh : ∀ F x, dW (DX n) 14 24 0 1 (vU n) F x = (gD (eq (ed (C_ q_)))) (zF n F) x := fun F x => by kernel_rfl
def rk : Cx := Cx.addLoop (DX n) 24 1 (vU n)
theorem Bi : Good (rk n) := Good.loop (Gl n) 14 0 (by kernel_rfl) (Bh n) n (fun _ => rfl) (fun _ => rfl) (fun _ => rfl) rfl
theorem Bj : ∀ F x, dW (rk n) 14 3 0 9 (vV n) F x = (gD (jP (C_ q_))) (sJ n F) x := fun F x => by kernel_rfl
def rl : Cx := Cx.addLoop (rk n) 3 9 (vV n)
theorem Bk : Good (rl n) := Good.loop (Bi n) 14 0 (by kernel_rfl) (Bj n) n (fun _ => rfl) (fun _ => rfl) (fun _ => rfl) rfl
theorem Bl : ∀ x, gf (rl n) 14 3 0 1000022 (rh n) x = (rh n).fn x := fun x => by kernel_rfl
def rm : Cx := Cx.addLoop (rl n) 3 1000022 (rh n)
theorem Bm : Good (rm n) := fp (Bk n) 14 0 (by kernel_rfl) (Bl n) (fun _ => rfl) (fun _ => rfl) rfl
theorem Bn : ∀ x, gf (rm n) 14 3 0 1000024 (ri n) x = (ri n).fn x := fun x => by kernel_rfl
def rn : Cx := Cx.addLoop (rm n) 3 1000024 (ri n)
theorem Bo : Good (rn n) := fp (Bm n) 14 0 (by kernel_rfl) (Bn n) (fun _ => rfl) (fun _ => rfl) rfl
theorem Bp : ∀ F x, dW (rn n) 14 3 0 26 (vW n) F x = (gD (jP (eq q_))) (sK n F) x := fun F x => by kernel_rfl
def rq : Cx := Cx.addLoop (rn n) 3 26 (vW n)
theorem Bq : Good (rq n) := Good.loop (Bo n) 14 0 (by kernel_rfl) (Bp n) n (fun _ => rfl) (fun _ => rfl) (fun _ => rfl) rfl
theorem Br : ∀ F x, dW (rq n) 14 3 0 15 (vX n) F x = (gD (jP (ed q_))) (sL n F) x := fun F x => by kernel_rfl
def vZ : Cx := Cx.addLoop (rq n) 3 15 (vX n)
theorem Bs : Good (vZ n) := Good.loop (Bq n) 14 0 (by kernel_rfl) (Br n) n (fun _ => rfl) (fun _ => rfl) (fun _ => rfl) rfl
theorem Ew : dq (vZ n) 14 3 0 (vY n) := fun x => by kernel_rfl
theorem Kq0.ok : SpecS Try.prog 3 (vY n) := ⟨fun hH hA hx hρ hk => vz (Bs n) (Ew n) (fun _ => rfl) rfl hH hA hx hρ hk⟩
end Go.Proofs.Dk
namespace Go.Proofs.Dk
open Go Go.IntKind
set_option maxRecDepth 100000
theorem E2 (n : Nat) (A B : Int) : cM n (1, (A, B)) = (if decide (A ≥ (-9223372036854775808)) then (if decide (A ≤ 9223372036854775807) then some (B == 0) else some false) else some false) := by kernel_rfl
theorem E3 (n : Nat) (A B : Int) : cM n (2, (A, B)) = (if (A == 0) then some (B == 0) else some false) := by kernel_rfl
theorem E4 (n : Nat) (A B : Int) : cM n (3, (A, B)) = (if (A == 0) then some (B == 0) else some false) := by kernel_rfl
theorem E5 (n : Nat) (A B : Int) : cM n (4, (A, B)) = (if (A == 0) then some (B == 0) else some false) := by kernel_rfl
theorem DY (n : Nat) (A B : Int) : cM n (5, (A, B)) = (if decide (A ≥ 1) then (if decide (A ≤ 12) then some (B == 0) else some false) else some false) := by kernel_rfl
theorem E6 (n : Nat) (A B : Int) : cM n (6, (A, B)) = (if (A == 0) then some (B == 0) else some false) := by kernel_rfl
theorem E7 (n : Nat) (A B : Int) : cM n (7, (A, B)) = (if (A == 0) then some (B == 0) else some false) := by kernel_rfl
theorem E8 (n : Nat) (A B : Int) : cM n (8, (A, B)) = (if (A == 0) then some (B == 0) else some false) := by kernel_rfl
theorem E9 (n : Nat) (A B : Int) : cM n (9, (A, B)) = (if (A == 0) then some (B == 0) else some false) := by kernel_rfl
theorem Ey (n : Nat) (A B : Int) : cM n (10, (A, B)) = (if (A == 0) then some (B == 0) else some false) := by kernel_rfl
theorem BV (n : Nat) (A B : Int) : cM n (11, (A, B)) = (if decide (A ≥ 0) then (if decide (A ≤ 7) then some (B == 0) else some false) else some false) := by kernel_rfl
theorem BW (n : Nat) (A B : Int) : cM n (12, (A, B)) = (if decide (A ≥ 0) then (if decide (A ≤ 7) then some (B == 0) else some false) else some false) := by kernel_rfl
theorem BX (n : Nat) (A B : Int) : cM n (13, (A, B)) = (if decide (A ≥ 0) then (if decide (A ≤ 7) then some (B == 0) else some false) else some false) := by kernel_rfl
theorem BY (n : Nat) (A B : Int) : cM n (14, (A, B)) = (if decide (A ≥ 0) then (if decide (A ≤ 7) then some (B == 0) else some false) else some false) := by kernel_rfl
theorem BZ (n : Nat) (A B : Int) : cM n (15, (A, B)) = (if decide (A ≥ 0) then (if decide (A ≤ 15) then some (B == 0) else some false) else some false) := by kernel_rfl
theorem B0 (n : Nat) (A B : Int) : cM n (16, (A, B)) = (if decide (A ≥ 0) then (if decide (A ≤ 15) then some (B == 0) else some false) else some false) := by kernel_rfl
theorem ye (n : Nat) (A B : Int) : cM n (17, (A, B)) = (if decide (A ≥ 0) then (if decide (A ≤ 7) then (if decide (B ≥ 0) then some (decide (B ≤ 7)) else some false) else some false) else some false) := by kernel_rfl
theorem yf (n : Nat) (A B : Int) : cM n (18, (A, B)) = (if decide (A ≥ 0) then (if decide (A ≤ 7) then (if decide (B ≥ 0) then some (decide (B ≤ 7)) else some false) else some false) else some false) := by kernel_rfl
theorem B4 (n : Nat) (A B : Int) : cM n (19, (A, B)) = (if decide (A ≥ 0) then (if decide (A ≤ 199) then some (B == 0) else some false) else some false) := by kernel_rfl
theorem B5 (n : Nat) (A B : Int) : cM n (20, (A, B)) = (if decide (A ≥ 0) then (if decide (A ≤ 199) then some (B == 0) else some false) else some false) := by kernel_rfl
theorem B6 (n : Nat) (A B : Int) : cM n (21, (A, B)) = (if decide (A ≥ 1) then (if decide (A ≤ 1000) then some (B == 0) else some false) else some false) := by kernel_rfl
theorem Ez (n : Nat) (A B : Int) : cM n (22, (A, B)) = (if (A == 0) then some (B == 0) else some false) := by kernel_rfl
theorem yg (n : Nat) (A B : Int) : cM n (23, (A, B)) = (if decide (A ≥ 0) then (if decide (A ≤ 7) then some (B == 0) else some false) else some false) := by kernel_rfl
theorem B7 (n : Nat) (A B : Int) : cM n (24, (A, B)) = (if decide (A ≥ 0) then (if decide (A ≤ 7) then some (B == 0) else some false) else some false) := by kernel_rfl
theorem EA (n : Nat) (A B : Int) : cM n (25, (A, B)) = (if (A == 0) then some (B == 0) else some false) := by kernel_rfl
theorem xb (n : Nat) (o A B : Int) (h : o < 1 ∨ o > 25) : cM n (o, (A, B)) = some false := by
 have : pw n o = some (ByteArray.empty, ((-1), (0, 0))) := by
  unfold pw
  rcases h with h | h
  ·simp [h]
  ·by_cases h1 : o < 1 <;> simp [h, h1]
 unfold cM
 simp [this]
theorem yh (n : Nat) (x : Int × Int × Int) : ∃ b, cM n x = some b := by
 obtain ⟨o, A, B⟩ := x
 by_cases h : o < 1 ∨ o > 25
 ·exact ⟨_, xb n o A B h⟩
 have ho : o = 1 ∨ o = 2 ∨ o = 3 ∨ o = 4 ∨ o = 5 ∨ o = 6 ∨ o = 7 ∨ o = 8 ∨ o = 9 ∨ o = 10 ∨ o = 11 ∨ o = 12 ∨ o = 13 ∨ o = 14 ∨ o = 15 ∨ o = 16 ∨ o = 17 ∨ o = 18 ∨ o = 19 ∨ o = 20 ∨ o = 21 ∨ o = 22 ∨ o = 23 ∨ o = 24 ∨ o = 25 := by omega
 rcases ho with rfl | rfl | rfl | rfl | rfl | rfl | rfl | rfl | rfl | rfl | rfl | rfl | rfl | rfl | rfl | rfl | rfl | rfl | rfl | rfl | rfl | rfl | rfl | rfl | rfl
 ·rw [E2]
  repeat' split
  all_goals exact ⟨_, rfl⟩
 ·rw [E3]
  repeat' split
  all_goals exact ⟨_, rfl⟩
 ·rw [E4]
  repeat' split
  all_goals exact ⟨_, rfl⟩
 ·rw [E5]
  repeat' split
  all_goals exact ⟨_, rfl⟩
 ·rw [DY]
  repeat' split
  all_goals exact ⟨_, rfl⟩
 ·rw [E6]
  repeat' split
  all_goals exact ⟨_, rfl⟩
 ·rw [E7]
  repeat' split
  all_goals exact ⟨_, rfl⟩
 ·rw [E8]
  repeat' split
  all_goals exact ⟨_, rfl⟩
 ·rw [E9]
  repeat' split
  all_goals exact ⟨_, rfl⟩
 ·rw [Ey]
  repeat' split
  all_goals exact ⟨_, rfl⟩
 ·rw [BV]
  repeat' split
  all_goals exact ⟨_, rfl⟩
 ·rw [BW]
  repeat' split
  all_goals exact ⟨_, rfl⟩
 ·rw [BX]
  repeat' split
  all_goals exact ⟨_, rfl⟩
 ·rw [BY]
  repeat' split
  all_goals exact ⟨_, rfl⟩
 ·rw [BZ]
  repeat' split
  all_goals exact ⟨_, rfl⟩
 ·rw [B0]
  repeat' split
  all_goals exact ⟨_, rfl⟩
 ·rw [ye]
  repeat' split
  all_goals exact ⟨_, rfl⟩
 ·rw [yf]
  repeat' split
  all_goals exact ⟨_, rfl⟩
 ·rw [B4]
  repeat' split
  all_goals exact ⟨_, rfl⟩
 ·rw [B5]
  repeat' split
  all_goals exact ⟨_, rfl⟩
 ·rw [B6]
  repeat' split
  all_goals exact ⟨_, rfl⟩
 ·rw [Ez]
  repeat' split
  all_goals exact ⟨_, rfl⟩
 ·rw [yg]
  repeat' split
  all_goals exact ⟨_, rfl⟩
 ·rw [B7]
  repeat' split
  all_goals exact ⟨_, rfl⟩
 ·rw [EA]
  repeat' split
  all_goals exact ⟨_, rfl⟩
def cW (x : Int × Int × Int) : Bool := (cM 0 x).getD false
theorem ee (n : Nat) (x : Int × Int × Int) : cM n x = some (cW x) := by
 have e : cM n x = cM 0 x := rfl
 obtain ⟨b, hb⟩ := yh 0 x
 rw [e, cW, hb]
 rfl
abbrev cK := Int × Int × Int
theorem dL {e : Int} (h1 : -9223372036854775808 ≤ e) (h2 : e ≤ 9223372036854775807) : wrap .i64 e = e := by
 rw [IntKind.wrap_i64]
 omega
theorem DZ {n : Int} (h : (Lit.int .i64 n).wf = true) : -9223372036854775808 ≤ n ∧ n ≤ 9223372036854775807 := by
 simp [Lit.wf, IntKind.bits, IntKind.signed, IntKind.min, IntKind.max] at h
 omega
def InR (l : List cK) : Prop := ∀ x ∈ l, -9223372036854775808 ≤ x.2.1 ∧ x.2.1 ≤ 9223372036854775807
theorem InR.of {l : List cK} (h : Sh.Ok (.sl (.pair (.int .i64) (.pair (.int .i64) (.int .i64)))) l) : InR l := fun x hx => DZ (h.2 x hx).2.1
theorem xc {l : List cK} {k : Nat} (h : k < l.length) : l.getD k (0, 0, 0) = l[k] := by
 rw [ax, aD h]
 rfl
def rt (l : List cK) : Bool := l.all cW && (decide (0 < l.length) && decide (l.length ≤ 200))
theorem lC (n : Nat) (l : List cK) (hl : l.length < 9223372036854775807) : ∀ (m k : Nat), k ≤ l.length → l.length < m + k → it (fun F => (ed q_) (fe n F)) m (l, l, (l.length : Int), (k : Int)) = some (if (l.drop k).all cW = true then .inr ((l, ()), ()) else .inl ((false, ()), ()))
 | 0, k, hk, hm => by omega
 | m + 1, k, hk, hm => by
  have ih := lC n l hl m (k + 1)
  show fe n (it _ m) l l (l.length : Int) (k : Int) = _
  generalize it (fun F => (ed q_) (fe n F)) m = F at ih ⊢
  unfold fe
  by_cases h : k < l.length
  ·have e1 : decide ((k : Int) < (l.length : Int)) = true := by simp [h]
   have e2 : decide (0 ≤ (k : Int)) = true := by simp
   rw [if_pos e1, if_pos (by rw [e1, e2]; rfl)]
   simp only [ai, xc h, ee, ae]
   rw [bP h, bU]
   cases hr : cW (l[k].1, l[k].2.1, l[k].2.2)
   ·have hr' : cW l[k] = false := hr
    simp [hr']
   ·have hr' : cW l[k] = true := hr
    have hw : wrap .i64 ((k : Int) + 1) = ((k + 1 : Nat) : Int) := by rw [dL (by omega) (by omega)]; simp
    simp only [hr', b9, aC, ao, aQ, hw]
    exact ih (by omega) (by omega)
  ·have hk' : k = l.length := by omega
   have e1 : decide ((k : Int) < (l.length : Int)) = false := by simp [hk']
   rw [if_neg (by rw [e1]; simp)]
   simp [hk']
theorem uE (n : Nat) (l : List cK) (hl : l.length < n) (hl2 : n < 9223372036854775807) : iK n l = some (rt l) := by
 unfold iK iJ
 have h0 := lC n l (by omega) n 0 (aA _) (by omega)
 have h1 : ((0 : Nat) : Int) = 0 := rfl
 rw [h1] at h0
 rw [h0]
 unfold rt
 cases h : l.all cW
 ·simp [h]
 ·by_cases h1 : 0 < l.length
  ·simp [h, h1]
   try omega
  ·simp [h, h1]
   try omega
def ends (x : cK) : cK := if x.1 = 21 then (22, 0, 0) else (24, x.2.1, 0)
def scanStep (x : cK) (i : Nat) (m h : List Int) (op : List (Int × cK)) : Option (List Int × List Int × List (Int × cK)) :=
 let m1 := m.set i (-1)
 let h1 := if 0 < op.length then (h.set i (-1)).set i (op.getD (op.length - 1) (0, 0, 0, 0)).1 else h.set i (-1)
 if x.1 = 21 ∨ x.1 = 23 then some (m1, h1, op ++ [((i : Int), ends x)])
 else if x.1 = 22 ∨ x.1 = 24 then
  if op.length = 0 then none
  else if (op.getD (op.length - 1) (0, 0, 0, 0)).2 = x then some ((m1.set i (op.getD (op.length - 1) (0, 0, 0, 0)).1).set (op.getD (op.length - 1) (0, 0, 0, 0)).1.toNat i, h1, op.take (op.length - 1)) else none
 else some (m1, h1, op)
def scanS (l : List cK) : Nat → Nat → List Int → List Int → List (Int × cK) → Option (List Int × List Int × List (Int × cK))
 | 0, _, m, h, op => some (m, h, op)
 | r + 1, i, m, h, op => match scanStep (l.getD i (0, 0, 0)) i m h op with
  | some (m, h, op) => scanS l r (i + 1) m h op
  | none => none
structure ScanI (l : List cK) (i : Nat) (m h : List Int) (op : List (Int × cK)) : Prop where
 hm : m.length = l.length
 hh : h.length = l.length
 hop : op.length ≤ i
 at_ : ∀ e ∈ op, ∃ k : Nat, k < i ∧ e.1 = (k : Int) ∧ k < l.length ∧ e.2 = ends (l.getD k (0, 0, 0)) ∧ ((l.getD k (0, 0, 0)).1 = 21 ∨ (l.getD k (0, 0, 0)).1 = 23)
theorem nk {α : Type} {l : List α} {d : α} (h : 0 < l.length) : l.getD (l.length - 1) d ∈ l := by
 rw [ax, aD (by omega)]
 exact List.getElem_mem _
theorem ScanI.step {l : List cK} {i : Nat} {m h m' h' : List Int} {op op' : List (Int × cK)} (hI : ScanI l i m h op) (hi : i < l.length) (hs : scanStep (l.getD i (0, 0, 0)) i m h op = some (m', h', op')) : ScanI l (i + 1) m' h' op' := by
 have up : ∀ e ∈ op, ∃ k : Nat, k < i + 1 ∧ e.1 = (k : Int) ∧ k < l.length ∧ e.2 = ends (l.getD k (0, 0, 0)) ∧ ((l.getD k (0, 0, 0)).1 = 21 ∨ (l.getD k (0, 0, 0)).1 = 23) := fun e he => by
  obtain ⟨k, h1, h2⟩ := hI.at_ e he
  exact ⟨k, by omega, h2⟩
 have hl1 : (if 0 < op.length then (h.set i (-1)).set i (op.getD (op.length - 1) (0, 0, 0, 0)).1 else h.set i (-1)).length = l.length := by
  split <;> simp [hI.hh]
 unfold scanStep at hs
 simp only at hs
 split at hs
 ·rename_i hx
  simp only [aa, ab] at hs
  obtain ⟨rfl, rfl, rfl⟩ := hs
  refine ⟨by simp [hI.hm], hl1, by simp; have := hI.hop; omega, fun e he => ?_⟩
  rcases au.1 he with he | he
  ·exact up e he
  ·simp only [aw] at he
   subst he
   exact ⟨i, by omega, rfl, hi, rfl, hx⟩
 ·split at hs
  ·split at hs
   ·cases hs
   ·split at hs
    ·simp only [aa, ab] at hs
     obtain ⟨rfl, rfl, rfl⟩ := hs
     exact ⟨by simp [hI.hm], hl1, by simp; have := hI.hop; omega, fun e he => up e (List.mem_of_mem_take he)⟩
    ·cases hs
  ·simp only [aa, ab] at hs
   obtain ⟨rfl, rfl, rfl⟩ := hs
   exact ⟨by simp [hI.hm], hl1, by have := hI.hop; omega, up⟩
theorem tu {k : Nat} (h : 0 < k) (h2 : k < 1000000) : wrap .i64 ((k : Int) - 1) = ((k - 1 : Nat) : Int) := by
 rw [dL (by omega) (by omega)]
 omega
theorem d4 {k : Nat} (h2 : k < 1000000) : wrap .i64 ((k : Int) + 1) = ((k + 1 : Nat) : Int) := by
 rw [dL (by omega) (by omega)]
 simp
theorem cO {i k : Nat} (h : i < k) : (decide (0 ≤ (i : Int)) && decide ((i : Int) < (k : Int))) = true := by simp [h]
theorem Cs (n : Nat) {m h : List Int} {op : List (Int × cK)} {i : Nat} {l : List cK} {N a b c : Int} (hi : i < h.length) (ho : op.length < 1000000) :
  sv n m h op (i : Int) l N (i : Int) a b c = some (m, (if 0 < op.length then h.set i (op.getD (op.length - 1) (0, 0, 0, 0)).1 else h), op, (i : Int), l, N, (i : Int), a, b, c) := by
 unfold sv
 by_cases h0 : 0 < op.length
 ·have e0 : decide ((op.length : Int) > 0) = true := af (by omega)
  rw [if_pos e0, tu h0 ho, if_pos (cO (by omega)), if_pos (cO hi), if_pos h0]
  simp only [ai]
 ·have e0 : ¬ decide ((op.length : Int) > 0) = true := by simp only [ak]; omega
  rw [if_neg e0, if_neg h0]
theorem zG (n : Nat) (F : ((List Int) × (List Int) × (List (Int × (Int × (Int × Int)))) × (List (Int × (Int × Int))) × Int × Int) → Option (((((List Int) × (List Int) × Int × Unit) × Unit) ⊕ (((List Int) × (List Int) × (List (Int × (Int × (Int × Int)))) × Unit) × Unit)))) {l : List cK} {i : Nat} {m h : List Int} {op : List (Int × cK)} (hI : ScanI l i m h op) (hi : i < l.length) (hl : l.length < 1000000) :
  jQ n F m h op l (l.length : Int) (i : Int) = match scanStep (l.getD i (0, 0, 0)) i m h op with
   | some (m', h', op') => F (m', h', op', l, (l.length : Int), ((i + 1 : Nat) : Int))
   | none => some (.inl (([], [], 7, ()), ())) := by
 have hop := hI.hop
 unfold jQ
 have e1 : decide ((i : Int) < (l.length : Int)) = true := by simp [hi]
 rw [if_pos e1, if_pos (cO hi), if_pos (by rw [hI.hm]; exact cO hi), if_pos (by rw [hI.hh]; exact cO hi)]
 simp only [ai]
 rw [Cs n (by simp [hI.hh, hi]) (by omega), ae]
 generalize hx : l.getD i (0, 0, 0) = x
 obtain ⟨o, A, B⟩ := x
 simp only
 unfold scanStep
 simp only
 generalize hh1 : (if 0 < op.length then (h.set i (-1)).set i (op.getD (op.length - 1) (0, 0, 0, 0)).1 else h.set i (-1)) = h1
 have hcap : (decide ((op.length + 1) * 32 ≤ 140737488355328) && decide (1 ≤ 32)) = true := by simp; omega
 by_cases h21 : o = 21
 ·subst h21
  simp only [fE]
  simp only [bZ, if_true, ae, hcap, d4 (show i < 1000000 by omega), ends, true_or]
 by_cases h23 : o = 23
 ·subst h23
  have n1 : ((23 : Int) == 21) = false := rfl
  simp only [fE, n1, bZ, if_true, ae, hcap, d4 (show i < 1000000 by omega), ends, or_true, aC, ao, show ¬ ((23 : Int) = 21) by decide]
 have n1 : (o == 21) = false := by simpa using h21
 have n2 : (o == 23) = false := by simpa using h23
 have ho : ¬ (o = 21 ∨ o = 23) := fun h => h.elim h21 h23
 simp only [fE, n1, n2, aC, ao, ae, if_neg ho]
 by_cases hc : o = 22 ∨ o = 24
 ·rw [if_pos hc]
  have hj : l6 n (m.set i (-1)) h1 op (i : Int) l (l.length : Int) (i : Int) o A B = some (.inr ((m.set i (-1), h1, op, (i : Int), l, (l.length : Int), (i : Int), ()), ((o, A, B, ()), ()))) := by
   unfold l6
   rcases hc with rfl | rfl <;> simp
  rw [hj, ae, Sum.elim_inr]
  simp only
  by_cases h0 : op.length = 0
  ·have e0 : ((op.length : Int) == 0) = true := by simp [h0]
   rw [if_pos e0, if_pos h0]
  ·have e0 : ¬ ((op.length : Int) == 0) = true := by simp only [ah]; omega
   have h1l : h1.length = l.length := by rw [← hh1]; split <;> simp [hI.hh]
   have h1g : h1.getD i 0 = (op.getD (op.length - 1) (0, 0, 0, 0)).1 := by
    rw [← hh1, if_pos (by omega), ax, List.getElem?_set_self (by simp [hI.hh, hi])]
    rfl
   rw [if_neg e0, if_neg h0, tu (by omega) (by omega), if_pos (cO (by omega))]
   simp only [ai, h1g]
   have hmem : op.getD (op.length - 1) (0, 0, 0, 0) ∈ op := nk (by omega)
   obtain ⟨k, k1, k2, k3, k4, k5⟩ := hI.at_ _ hmem
   generalize op.getD (op.length - 1) (0, 0, 0, 0) = e at *
   obtain ⟨e1', o', A', B'⟩ := e
   simp only at k2 k4
   subst k2
   simp only
   by_cases heq : o' = o ∧ A' = A ∧ B' = B
   ·obtain ⟨rfl, rfl, rfl⟩ := heq
    have c1 : decide (0 ≤ (op.length - 1 : Nat)) = true := by simp
    simp only [bZ, Bool.and_self, b9, aC, ao, cO (show i < h1.length by omega), cO (show i < (m.set i (-1)).length by simp [hI.hm, hi]), if_true, bC, cO (show k < m.length by rw [hI.hm]; exact k3), ai]
    rw [if_pos (cO (by rw [hI.hm]; exact hi)), if_pos (by simp), bp, d4 (by omega)]
   ·have hne : (o' == o && (A' == A && B' == B)) = false := by
     rw [Bool.eq_false_iff]
     intro h
     simp only [ag, ah] at h
     exact heq h
    have hne2 : ¬ ((o', A', B') = (o, A, B)) := fun h => by
     simp only [ab] at h
     exact heq h
    rw [hne, Bool.not_false, if_pos rfl, if_neg hne2]
 ·rw [if_neg hc]
  have hj : l6 n (m.set i (-1)) h1 op (i : Int) l (l.length : Int) (i : Int) o A B = some (.inl ((m.set i (-1), h1, op, l, (l.length : Int), (i : Int), ()), ((o, A, B, ()), ()))) := by
   unfold l6
   have m1 : (o != 22) = true := by simp; exact fun h => hc (.inl h)
   have m2 : (o != 24) = true := by simp; exact fun h => hc (.inr h)
   rw [if_pos m1, if_pos m2]
  rw [hj, ae, Sum.elim_inl]
  simp only [d4 (show i < 1000000 by omega)]
theorem t0 (n : Nat) {l : List cK} (hl : l.length < 1000000) : ∀ (f i : Nat) {m h : List Int} {op : List (Int × cK)}, ScanI l i m h op → i ≤ l.length → l.length < f + i →
  it (fun F => (eq q_) (jQ n F)) f (m, h, op, l, (l.length : Int), (i : Int)) = match scanS l (l.length - i) i m h op with
   | some (m', h', op') => some (.inr ((m', h', op', ()), ()))
   | none => some (.inl (([], [], 7, ()), ()))
 | 0, i, m, h, op, hI, hi, hf => by omega
 | f + 1, i, m, h, op, hI, hi, hf => by
  have ih := fun {m h : List Int} {op : List (Int × cK)} => t0 n hl f (i + 1) (m := m) (h := h) (op := op)
  show jQ n (it _ f) m h op l (l.length : Int) (i : Int) = _
  generalize it (fun F => (eq q_) (jQ n F)) f = F at ih ⊢
  rcases aq i l.length with hlt | hge
  ·rw [zG n F hI hlt hl, show l.length - i = (l.length - (i + 1)) + 1 by omega]
   simp only [scanS]
   cases hs : scanStep (l.getD i (0, 0, 0)) i m h op with
   | none => rfl
   | some p =>
    obtain ⟨m', h', op'⟩ := p
    exact ih (hI.step hlt hs) (by omega) (by omega)
  ·have : i = l.length := by omega
   subst this
   unfold jQ
   have e1 : ¬ decide ((l.length : Int) < (l.length : Int)) = true := by simp
   rw [if_neg e1]
   simp [scanS]
def scanI (l : List cK) : List Int × List Int × Int := if rt l = true then match scanS l l.length 0 (List.replicate l.length 0) (List.replicate l.length 0) [] with
  | some (m, h, op) => if 0 < op.length then ([], [], 7) else (m, h, 0)
  | none => ([], [], 7)
 else ([], [], 1)
theorem ScanI.start (l : List cK) : ScanI l 0 (List.replicate l.length 0) (List.replicate l.length 0) [] := ⟨by simp, by simp, by simp, fun e he => by cases he⟩
theorem px (n : Nat) (l : List cK) (hl : l.length < n) (hn : n < 1000000) : nc n l = some (scanI l) := by
 unfold nc
 rw [uE n l hl (by omega), ae]
 unfold scanI
 cases hr : rt l
 ·simp
 ·have c : (decide (0 ≤ (l.length : Int)) && ((l.length : Int) == (l.length : Int)) && decide ((l.length : Int) * (8 : Int) ≤ 140737488355328) && decide (1 ≤ 8)) = true := by
   simp
   omega
  simp only [b9, aC, ao, c, if_true, ai]
  have h0 := t0 n (by omega) n 0 (ScanI.start l) (aA _) (by omega)
  unfold qA
  have z : ((0 : Nat) : Int) = 0 := rfl
  rw [z] at h0
  rw [h0, bp]
  cases scanS l l.length 0 (List.replicate l.length 0) (List.replicate l.length 0) [] with
  | none => rfl
  | some p =>
   obtain ⟨m, h, op⟩ := p
   simp only [ae, Sum.elim_inr]
   by_cases ho : 0 < op.length
   ·have : decide ((op.length : Int) > 0) = true := af (by omega)
    rw [if_pos this, if_pos ho]
   ·have : ¬ decide ((op.length : Int) > 0) = true := by simp only [ak]; omega
    rw [if_neg this, if_neg ho]
end Go.Proofs.Dk
