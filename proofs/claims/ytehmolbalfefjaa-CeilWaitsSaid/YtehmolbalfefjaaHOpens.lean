import Derived.Test.YtehmolbalfefjaaWMore
import Derived.Test.YtehmolbalfefjaaWWords
import Derived.Deep.Slices
import Derived.ProofKit
import Derived.OpenShut
import Derived.Test.YtehmolbalfefjaaWArr
namespace Go.Proofs.YtehmolbalfefjaaH
open Go.RowKit Go.ChangeShapes Go.WideShapes Go.Proofs.YtehmolbalfefjaaW.PrintWords Go.Proofs.YtehmolbalfefjaaW.PrintMore

/-- Whatever is read as data at type t is a value of the kind d, and its numbers fit. -/
structure Opens (P : Program) (t : TypeId) {α : Type} (d : Kd α) (ok : α → Prop) : Prop where
  cells : P.cellsOf t = d.sz
  open_ : ∀ {H : Type} (enc : TypeId × Value → H) (w : World) (fuel : Nat) (cs : List Value) (x : DataW H × List MemPlace), DataW.trod enc P w 0 (fun _ => true) true fuel t cs = some x → ∃ a, d.K w a cs ∧ ok a

theorem Opens.int {P : Program} {t : TypeId} {k : IntKind} (ht : P.underlying t = some (.int k)) (hc : P.cellsOf t = 1) : Opens P t (Kd.int k) (fun n => (Lit.int k n).wf = true) := by
  refine ⟨hc, ?_⟩
  intro H enc w fuel cs x h
  obtain ⟨n, rfl, _, hw⟩ := DataW.trod_int ht h
  exact ⟨n, rfl, hw⟩
theorem Opens.bool {P : Program} {t : TypeId} (ht : P.underlying t = some .bool) (hc : P.cellsOf t = 1) : Opens P t Kd.bool (fun _ => True) := by
  refine ⟨hc, ?_⟩
  intro H enc w fuel cs x h
  obtain ⟨b, rfl, _⟩ := DataW.trod_bool ht h
  exact ⟨b, rfl, trivial⟩
theorem Opens.string {P : Program} {t : TypeId} (ht : P.underlying t = some .string) (hc : P.cellsOf t = 1) : Opens P t Kd.string (fun s => s.size ≤ maxLen) := by
  refine ⟨hc, ?_⟩
  intro H enc w fuel cs x h
  obtain ⟨s, rfl, _, hw⟩ := DataW.trod_string ht h
  exact ⟨s, rfl, hw⟩

theorem cells?_get {w : World} {a : Addr} {n : Nat} {cs : List Value} (h : w.cells? 0 a n = some cs) : cs.length = n ∧ ∀ i u, cs[i]? = some u → w.cell? (a.add i) = some u := by
  have hs := World.cells?_some h
  refine ⟨hs.2.1, fun i u hu => ?_⟩
  have hi : i < n := by rw [← hs.2.1]; exact (List.getElem?_eq_some_iff.1 hu).1
  rw [← hu]
  exact hs.2.2 i hi

theorem Opens.slice {P : Program} {t e : TypeId} {α : Type} [Inhabited α] {d : Kd α} {ok : α → Prop} (ht : P.underlying t = some (.slice e)) (hc : P.cellsOf t = 1) (hd : Opens P e d ok) : Opens P t (Kd.slice e d) (fun l => l.length ≤ maxLen ∧ ∀ x, x ∈ l → ok x) := by
  refine ⟨hc, ?_⟩
  intro H enc w fuel cs x h
  rcases Go.Deep.open_slice ht h with ⟨rfl, _⟩ | ⟨a, len, cap, m, n, D, Pl, rfl, _, hl, hm, hmm, _, hx⟩
  · exact ⟨[], ⟨none, 0, rfl, Nat.le_refl _, rfl, by simp, fun hn => absurd hn (by simp)⟩, by simp [maxLen], fun x hx => by cases hx⟩
  simp only [if_true] at hmm
  subst hmm
  have hall : ∀ i, i < len → ∃ x : α, ∃ c, c.length = d.sz ∧ d.K w x c ∧ (∀ j u, c[j]? = some u → w.cell? (a.add (i * d.sz + j)) = some u) ∧ ok x := by
    intro i hi
    obtain ⟨cs', h1, h2⟩ := hx i (by omega)
    rw [hd.cells] at h1
    obtain ⟨h3, h4⟩ := cells?_get h1
    obtain ⟨x, hk, ho⟩ := hd.open_ enc w n cs' _ h2
    exact ⟨x, cs', h3, hk, fun j u hj => by rw [← Go.Deep.add_add]; exact h4 j u hj, ho⟩
  obtain ⟨X, hX⟩ := Go.Deep.choose_lt hall
  refine ⟨(List.range len).map X, ⟨some a, m, by simp, by simpa using hl, by simp, ?_, fun _ => ⟨a, rfl, fun j p hj => ?_⟩⟩, by simpa using Nat.le_trans hl hm, fun x hx => ?_⟩
  · simp only [List.length_map, List.length_range]
    have : maxLen = 9223372036854775807 := rfl
    omega
  · have hj2 : j < len := by
      have := (List.getElem?_eq_some_iff.1 hj).1
      simpa using this
    obtain ⟨c, h1, h2, h3, _⟩ := hX j hj2
    have : X j = p := by simpa [List.getElem?_map, List.getElem?_range hj2] using hj
    subst this
    exact ⟨c, h1, h2, h3⟩
  · obtain ⟨i, hi, rfl⟩ := List.mem_map.1 hx
    obtain ⟨_, _, _, _, ho⟩ := hX i (List.mem_range.1 hi)
    exact ho

/-- The fields of a struct from one on, in line. -/
structure OpensF (P : Program) (fs : List Field) (off : Nat) {α : Type} (d : Kd α) (ok : α → Prop) : Prop where
  open_ : ∀ {H : Type} (enc : TypeId × Value → H) (w : World) (n : Nat) (cs : List Value), off + d.sz ≤ cs.length → (∀ (i : Nat) (f : Field), fs[i]? = some f → ∃ x, DataW.trod enc P w 0 (fun _ => true) true n f.type ((cs.drop f.offset).take (P.cellsOf f.type)) = some x) → ∃ a, d.K w a ((cs.drop off).take d.sz) ∧ ok a
theorem OpensF.one {P : Program} {f : Field} {off : Nat} {α : Type} {d : Kd α} {ok : α → Prop} (ho : f.offset = off) (hd : Opens P f.type d ok) : OpensF P [f] off d ok := by
  refine ⟨fun enc w n cs hl h => ?_⟩
  obtain ⟨x, hx⟩ := h 0 f rfl
  rw [ho, hd.cells] at hx
  exact hd.open_ enc w n _ _ hx
theorem OpensF.cons {P : Program} {f : Field} {fs : List Field} {off : Nat} {α β : Type} {d : Kd α} {ok : α → Prop} {d' : Kd β} {ok' : β → Prop} (ho : f.offset = off) (hd : Opens P f.type d ok) (hf : OpensF P fs (off + d.sz) d' ok') : OpensF P (f :: fs) off (Kd.pair d d') (fun x => ok x.1 ∧ ok' x.2) := by
  refine ⟨fun enc w n cs hl h => ?_⟩
  have hl' : off + (d.sz + d'.sz) ≤ cs.length := hl
  obtain ⟨x, hx⟩ := h 0 f rfl
  rw [ho, hd.cells] at hx
  obtain ⟨a, ha, hoa⟩ := hd.open_ enc w n _ _ hx
  obtain ⟨b, hb, hob⟩ := hf.open_ enc w n cs (by omega) (fun i g hg => h (i + 1) g hg)
  refine ⟨(a, b), ⟨_, _, ?_, ha, hb⟩, hoa, hob⟩
  show (cs.drop off).take (d.sz + d'.sz) = _
  rw [List.take_add, List.drop_drop]
theorem Opens.struct {P : Program} {t : TypeId} {fs : List Field} {α β : Type} {d : Kd α} {ok : α → Prop} (ht : P.underlying t = some (.struct fs.toArray)) (hc : P.cellsOf t = d.sz) (hf : OpensF P fs 0 d ok) (f : β → α) (g : α → β) (hg : ∀ a, f (g a) = a) : Opens P t (Kd.iso d f) (fun x => ok (f x)) := by
  refine ⟨hc, ?_⟩
  intro H enc w fuel cs x h
  obtain ⟨xs, n, rfl, rfl, hl, hxl, hx⟩ := DataW.trod_struct ht h
  have hsz : xs.length = fs.length := by simpa using hxl
  obtain ⟨a, ha, ho⟩ := hf.open_ enc w n cs (by omega) (fun i f hi => by
    have h1 := hx i f (by simpa using hi)
    have hlt : i < xs.length := by rw [hsz]; exact (List.getElem?_eq_some_iff.1 hi).1
    rw [List.getElem?_eq_getElem hlt] at h1
    exact ⟨_, h1⟩)
  rw [List.drop_zero, List.take_of_length_le (by omega)] at ha
  exact ⟨g a, by show d.K w (f (g a)) cs; rw [hg]; exact ha, by rw [hg]; exact ho⟩
/-- A parameter that reads as data, as a value of the kind. -/
theorem Opens.arg {P : Program} {t : TypeId} {α : Type} {d : Kd α} {ok : α → Prop} (h : Opens P t d ok) {H : Type} {enc : TypeId × Value → H} {w : World} {v : Value} {x : DataW H} {ps : List MemPlace} (ht : DataW.Trod enc P w 0 (fun _ => true) true t v x ps) : ∃ a, d.K w a v.cells.toList ∧ ok a := by
  obtain ⟨fuel, hf⟩ := ht
  exact h.open_ enc w fuel _ _ hf

/-! ### arrays -/
theorem Opens.array {P : Program} {t e : TypeId} {n : Nat} {α : Type} [Inhabited α] {d : Kd α} {ok : α → Prop} (ht : P.underlying t = some (.array n e)) (hc : P.cellsOf t = n * d.sz) (hs : 0 < d.sz) (hd : Opens P e d ok) : Opens P t (Kd.arr n d hs) (fun l => ∀ x, x ∈ l → ok x) := by
  refine ⟨hc, ?_⟩
  intro H enc w fuel cs x h
  obtain ⟨xs, m, rfl, rfl, hl, hxl, hx⟩ := DataW.trod_array ht h
  have hall : ∀ i, i < n → ∃ x : α, d.K w x ((cs.drop (i * d.sz)).take d.sz) ∧ ok x := by
    intro i hi
    have h1 := hx i hi
    rw [hd.cells, List.getElem?_eq_getElem (by omega)] at h1
    exact hd.open_ enc w m _ _ h1
  obtain ⟨X, hX⟩ := Go.Deep.choose_lt hall
  refine ⟨(List.range n).map X, ⟨by simp, by rw [hl, hc]; simp, fun j p hj => ?_⟩, fun x hx => ?_⟩
  · have hj2 : j < n := by
      have := (List.getElem?_eq_some_iff.1 hj).1
      simpa using this
    have : X j = p := by simpa [List.getElem?_map, List.getElem?_range hj2] using hj
    subst this
    exact (hX j hj2).1
  · obtain ⟨i, hi, rfl⟩ := List.mem_map.1 hx
    exact (hX i (List.mem_range.1 hi)).2
/-! ### what a call of my own contracts touches -/
/-- os, tape and output stay; no block goes; of the old blocks only those of S turn. -/
structure Chg (S : Nat → Prop) (w w' : World) : Prop where
  os : w'.os = w.os
  tape : w'.tape = w.tape
  output : w'.output = w.output
  size : w.heap.size ≤ w'.heap.size
  block : ∀ k, k < w.heap.size → ¬ S k → w'.heap[k]? = w.heap[k]?
theorem Chg.refl (S : Nat → Prop) (w : World) : Chg S w w := ⟨rfl, rfl, rfl, Nat.le_refl _, fun _ _ _ => rfl⟩
theorem Chg.trans {S : Nat → Prop} {a b c : World} (h : Chg S a b) (k : Chg S b c) : Chg S a c :=
  ⟨k.os.trans h.os, k.tape.trans h.tape, k.output.trans h.output, Nat.le_trans h.size k.size, fun i hi hn => (k.block i (Nat.lt_of_lt_of_le hi h.size) hn).trans (h.block i hi hn)⟩
theorem Chg.alloc {S : Nat → Prop} {a b : World} (h : Chg S a b) (o : Obj) : Chg S a (b.alloc o) :=
  h.trans ⟨rfl, rfl, rfl, by simp, fun k hk _ => Below.heap_alloc _ _ _ hk⟩
theorem Chg.drew {S : Nat → Prop} {a b : World} (h : Chg S a b) : Chg S a b.drew := ⟨h.os, h.tape, h.output, h.size, h.block⟩
theorem Chg.drewN {S : Nat → Prop} {a b : World} (h : Chg S a b) (n : Nat) : Chg S a (b.drewN n) := ⟨h.os, h.tape, h.output, h.size, h.block⟩
theorem Chg.setCell {S : Nat → Prop} {a b : World} (h : Chg S a b) {p : Addr} (hp : S p.block ∨ a.heap.size ≤ p.block) (u : Value) : Chg S a (b.setCell p u) :=
  ⟨h.os, h.tape, h.output, by simpa [World.setCell] using h.size, fun k hk hn => (Below.heap_setCell _ _ _ _ (by rintro rfl; rcases hp with hp | hp; exact hn hp; omega)).trans (h.block k hk hn)⟩
theorem Chg.below {S : Nat → Prop} {a b : World} {B : Nat} (h : Chg S a b) (hS : ∀ k, S k → B ≤ k) (hB : B ≤ a.heap.size) : Below B a b :=
  ⟨h.os, h.tape, h.output, h.size, fun k hk => h.block k (by omega) (fun hs => by have := hS k hs; omega)⟩
end Go.Proofs.YtehmolbalfefjaaH
