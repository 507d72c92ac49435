/- A part of the proofs: A reader of the program's code: what a piece of code makes of values that are known but for their nu -/
import Derived.Control
import Derived.Calls
import Derived.Laws.Sem
import Derived.Orders
import Derived.Maps.AppendAt
import Derived.Deep.MidRow
import Derived.Below
import Derived.Laws.Entries
import Derived.Deep.Quiet
import Derived.Laws.StructEq
import Derived.ChangeKeysEq
import Derived.Deep.Slices
import Derived.Laws.MakeOwn
import Derived.Great.BuildSlice
import Derived.Laws.OwnMore
set_option linter.unusedVariables false
set_option linter.unusedSimpArgs false
noncomputable section
namespace Go.Proofs.Dk
open Go
theorem aa : type_of% @Option.some.injEq := @Option.some.injEq
theorem ab : type_of% @Option.bind_some := @Option.bind_some
theorem ae : type_of% @beq_iff_eq := @beq_iff_eq
theorem af : type_of% @Int.toNat_natCast := @Int.toNat_natCast
theorem ag : type_of% @decide_eq_true := @decide_eq_true
theorem ah : type_of% @Prod.mk.injEq := @Prod.mk.injEq
theorem ai : type_of% @Bool.and_eq_true := @Bool.and_eq_true
theorem aj : type_of% @decide_eq_true_eq := @decide_eq_true_eq
theorem ak : type_of% @Nat.le_refl := @Nat.le_refl
theorem am : type_of% @Nat.lt_or_ge := @Nat.lt_or_ge
theorem ao : type_of% @Option.some.inj := @Option.some.inj
theorem aq : type_of% @Nat.zero_le := @Nat.zero_le
theorem au : type_of% @if_false := @if_false
theorem av : type_of% @List.getD_eq_getElem?_getD := @List.getD_eq_getElem?_getD
theorem aw : type_of% @bne_iff_ne := @bne_iff_ne
theorem ax : type_of% @List.mem_singleton := @List.mem_singleton
theorem ay : type_of% @Sum.elim_inr := @Sum.elim_inr
theorem az : type_of% @List.mem_append := @List.mem_append
theorem aA : type_of% @Bool.true_and := @Bool.true_and
theorem aB : type_of% @List.mem_cons_of_mem := @List.mem_cons_of_mem
theorem aC : type_of% @List.mem_cons := @List.mem_cons
theorem aD : type_of% @Bool.false_eq_true := @Bool.false_eq_true
theorem aE : type_of% @Bool.or_eq_true := @Bool.or_eq_true
theorem aF : type_of% @List.getElem?_eq_getElem := @List.getElem?_eq_getElem
theorem aG : type_of% @of_decide_eq_true := @of_decide_eq_true
theorem aH : type_of% @beq_eq_false_iff_ne := @beq_eq_false_iff_ne
theorem aI : type_of% @Eq.trans := @Eq.trans
theorem aJ : type_of% @decide_eq_false := @decide_eq_false
theorem aK : type_of% @List.append_nil := @List.append_nil
theorem aL : type_of% @List.append_assoc := @List.append_assoc
theorem aM : type_of% @List.mem_cons_self := @List.mem_cons_self
theorem aN : type_of% @Nat.sub_zero := @Nat.sub_zero
theorem aO : type_of% @Bool.eq_false_or_eq_true := @Bool.eq_false_or_eq_true
theorem aP : type_of% @Bool.false_and := @Bool.false_and
theorem aQ : type_of% @Nat.succ_mul := @Nat.succ_mul
theorem aR : type_of% @List.all_eq_true := @List.all_eq_true
theorem aS : type_of% @List.length_cons := @List.length_cons
theorem aT : type_of% @List.length_append := @List.length_append
theorem aU : type_of% @Nat.mul_le_mul_right := @Nat.mul_le_mul_right
theorem aV : type_of% @Nat.le_of_eq := @Nat.le_of_eq
theorem aW : type_of% @List.take_of_length_le := @List.take_of_length_le
theorem aX : type_of% @Nat.le_trans := @Nat.le_trans
theorem aY : type_of% @List.getElem?_take := @List.getElem?_take
theorem aZ : type_of% @Bool.or_false := @Bool.or_false
theorem ba : type_of% @List.getElem?_drop := @List.getElem?_drop
theorem bb : type_of% @List.nil_append := @List.nil_append
theorem bc : type_of% @List.getElem?_append_left := @List.getElem?_append_left
theorem bf : type_of% @List.mem_range := @List.mem_range
theorem bg : type_of% @List.getElem?_append_right := @List.getElem?_append_right
theorem bh : type_of% @List.mem_append_left := @List.mem_append_left
theorem bi : type_of% @Nat.sub_self := @Nat.sub_self
theorem bj : type_of% @List.eq_nil_of_length_eq_zero := @List.eq_nil_of_length_eq_zero
theorem bk : type_of% @Nat.lt_of_lt_of_le := @Nat.lt_of_lt_of_le
theorem bm : type_of% @List.length_set := @List.length_set
theorem bn : type_of% @List.mem_map_of_mem := @List.mem_map_of_mem
theorem bo : type_of% @Bool.eq_iff_iff := @Bool.eq_iff_iff
theorem bp : type_of% @List.getElem?_cons_zero := @List.getElem?_cons_zero
theorem bq : type_of% @Nat.zero_add := @Nat.zero_add
theorem bs : type_of% @Option.map_some := @Option.map_some
theorem bu : type_of% @List.map_congr_left := @List.map_congr_left
theorem bv : type_of% @Bool.false_or := @Bool.false_or
theorem bw : type_of% @Bool.or_eq_false_iff := @Bool.or_eq_false_iff
theorem bx : type_of% @Nat.add_mul := @Nat.add_mul
theorem bz : type_of% @List.take_append_of_le_length := @List.take_append_of_le_length
theorem bA : type_of% @List.take_append_drop := @List.take_append_drop
theorem bB : type_of% @List.getElem?_set := @List.getElem?_set
theorem bC : type_of% @and_true := @and_true
theorem bD : type_of% @List.mem_append_right := @List.mem_append_right
theorem bE : type_of% @List.getElem_mem := @List.getElem_mem
theorem bF : type_of% @Nat.add_comm := @Nat.add_comm
theorem bG : type_of% @List.drop_drop := @List.drop_drop
theorem bH : type_of% @Nat.add_assoc := @Nat.add_assoc
theorem bI : type_of% @List.drop_eq_getElem_cons := @List.drop_eq_getElem_cons
theorem bJ : type_of% @beq_self_eq_true := @beq_self_eq_true
theorem bK : type_of% @List.length_map := @List.length_map
theorem bN : type_of% @List.nodup_cons := @List.nodup_cons
theorem bO : type_of% @ByteArray.size_extract := @ByteArray.size_extract
theorem bP : type_of% @Array.getD_eq_getD_getElem? := @Array.getD_eq_getD_getElem?
theorem bQ : type_of% @List.getElem?_eq_none := @List.getElem?_eq_none
theorem bR : type_of% @Int.le_refl := @Int.le_refl
theorem bS : type_of% @Bool.not_true := @Bool.not_true
theorem bT : type_of% @Nat.succ_le_succ := @Nat.succ_le_succ
theorem bU : type_of% @Nat.eq_of_beq_eq_true := @Nat.eq_of_beq_eq_true
theorem bV : type_of% @Nat.eq_zero_or_pos := @Nat.eq_zero_or_pos
theorem bW : type_of% @List.drop_append_of_le_length := @List.drop_append_of_le_length
theorem bX : type_of% @List.cons.injEq := @List.cons.injEq
theorem bY : type_of% @List.all_cons := @List.all_cons
theorem bZ : type_of% @List.length_drop := @List.length_drop
theorem b9 : type_of% @Bool.not_eq_true' := @Bool.not_eq_true'
theorem ca : type_of% @List.getElem?_replicate := @List.getElem?_replicate
theorem cb : type_of% @Array.getElem?_toList := @Array.getElem?_toList
theorem cc : type_of% @List.drop_zero := @List.drop_zero
theorem cd : type_of% @List.getElem?_map := @List.getElem?_map
theorem ce : type_of% @List.find?_some := @List.find?_some
theorem cf : type_of% @List.mem_of_find?_eq_some := @List.mem_of_find?_eq_some
theorem cg : type_of% @List.mem_filter := @List.mem_filter
theorem ch : type_of% @Bool.true_or := @Bool.true_or
theorem ci : type_of% @List.drop_of_length_le := @List.drop_of_length_le
theorem cj : type_of% @Nat.add_zero := @Nat.add_zero
theorem ck : type_of% @List.length_nil := @List.length_nil
theorem cm : type_of% @Array.toList_map := @Array.toList_map
theorem cn : type_of% @List.length_take := @List.length_take
theorem cq : type_of% @Option.getD_some := @Option.getD_some
theorem cr : type_of% @List.contains_eq_mem := @List.contains_eq_mem
theorem ct : type_of% @Bool.not_false := @Bool.not_false
theorem cu : type_of% @List.getElem_of_mem := @List.getElem_of_mem
theorem cv : type_of% @List.mem_of_getElem? := @List.mem_of_getElem?
theorem cw : type_of% @List.getElem?_cons_succ := @List.getElem?_cons_succ
theorem cy : type_of% @List.ext_getElem? := @List.ext_getElem?
theorem cB : type_of% @Array.toList_push := @Array.toList_push
theorem cD : type_of% @Int.mul_le_mul_of_nonneg_right := @Int.mul_le_mul_of_nonneg_right
theorem cE : type_of% @Nat.add_sub_cancel := @Nat.add_sub_cancel
inductive Sh where
 | int (k : IntKind)
 | bool
 | str
 | pair (a b : Sh)
 | sl (e : Sh)
 | arr (n : Nat) (e : Sh)
 deriving Inhabited
@[reducible] def Sh.T : Sh → Type
 | .int _ => Int
 | .bool => Bool
 | .str => ByteArray
 | .pair a b => a.T × b.T
 | .sl e => List e.T
 | .arr _ e => List e.T
def Sh.sz : Sh → Nat
 | .pair a b => a.sz + b.sz
 | .arr n e => n * e.sz
 | _ => 1
def Sh.dflt : (s : Sh) → s.T
 | .int _ => (0 : Int)
 | .bool => false
 | .str => ByteArray.empty
 | .pair a b => (a.dflt, b.dflt)
 | .sl _ => []
 | .arr n e => List.replicate n e.dflt
def Sh.same : (a b : Sh) → Option (PLift (a = b))
 | .int k, .int k' => if h : k = k' then some ⟨by rw [h]⟩ else none
 | .bool, .bool => some ⟨rfl⟩
 | .str, .str => some ⟨rfl⟩
 | .pair a b, .pair a' b' => match a.same a', b.same b' with | some ⟨h⟩, some ⟨h'⟩ => some ⟨by rw [h, h']⟩ | _, _ => none
 | .sl e, .sl e' => match e.same e' with | some ⟨h⟩ => some ⟨by rw [h]⟩ | _ => none
 | .arr n e, .arr n' e' => if g : n = n' then match e.same e' with | some ⟨h⟩ => some ⟨by rw [g, h]⟩ | _ => none else none
 | _, _ => none
def Sh.multi : Sh → Bool
 | .pair _ _ | .arr _ _ => true
 | _ => false
inductive Ix where
 | ix (i m sz : Nat)
 | off (k : Nat)
inductive DV where
 | undef
 | sc (v : Value)
 | ptr (n : Nat) (o : Nat) (p : List Ix)
 | rp (n sz i : Nat) (p : List Ix)
 | pi (its : List DV)
 | rw (n : Nat)
 | sl (n : Nat) (o l : Nat)
 | vs (s : Sh) (xs : List s.T)
 | fn (F : Fn) (first caps : List DV)
 | arr (s : Sh) (n : Nat) (xs : List s.T)
 | agg (cs : List DV)
 | tup (vs : List DV)
 | tab (ks : List (List Int)) (vs : List DV)
 | mh (n : Nat)
 deriving Inhabited
def DV.wd : DV → Nat
 | .arr s n _ => n * s.sz
 | _ => 1
def DV.items : DV → List DV
 | .agg cs => cs
 | .arr s n xs => [.arr s n xs]
 | v => [v]
inductive Blk where
 | obj (cs : List DV)
 | row (E : TypeId) (s : Sh) (xs : List s.T)
 | mp (ks : List (List Int)) (vs : List DV)
abbrev Heap := Nat → Option Blk
def Heap.set (H : Heap) (n : Nat) (b : Option Blk) : Heap := fun m => if m = n then b else H m
def Sh.enc : (s : Sh) → s.T → List DV
 | .int k, n => [.sc (.int k n)]
 | .bool, b => [.sc (.bool b)]
 | .str, s => [.sc (.string s)]
 | .pair a b, x => a.enc x.1 ++ b.enc x.2
 | .sl e, xs => [.vs e xs]
 | .arr n e, xs => [.arr e n xs]
def Sh.val (s : Sh) (x : s.T) : DV := if s.multi then .agg (s.enc x) else ((s.enc x).head?).getD .undef
def AE {α : Type} (f : List DV → Option (α × List DV)) : Nat → List DV → Option (List α × List DV)
 | 0, r => some ([], r)
 | n + 1, r => match f r with
  | some (x, r) => match AE f n r with
   | some (xs, r) => some (x :: xs, r)
   | none => none
  | none => none
def Sh.dec : (s : Sh) → List DV → Option (s.T × List DV)
 | .int k, r => match r with | .sc (.int k' n) :: r => if k' = k then some (n, r) else none | _ => none
 | .bool, r => match r with | .sc (.bool b) :: r => some (b, r) | _ => none
 | .str, r => match r with | .sc (.string s) :: r => some (s, r) | _ => none
 | .pair a b, r => match a.dec r with
  | some (x, r) => match b.dec r with
   | some (y, r) => some ((x, y), r)
   | none => none
  | none => none
 | .sl e, r => match r with
  | .vs e' xs :: r => match e'.same e with | some ⟨h⟩ => some (h ▸ xs, r) | none => none
  | .sc (.slice none n _) :: r => if n = 0 then some ([], r) else none
  | _ => none
 | .arr n e, r => match r with
  | .arr e' n' xs :: r => if n' = n then match e'.same e with | some ⟨h⟩ => some (h ▸ xs, r) | none => none else none
  | r => AE e.dec n r
def jl : Nat → List DV → Option (List DV)
 | o, [] => if o = 0 then some [] else none
 | o, d :: r => if o = 0 then some (d :: r) else if d.wd ≤ o then jl (o - d.wd) r else none
def DU : Nat → List DV → List DV
 | _, [] => []
 | o, d :: r => if o = 0 then [] else d :: DU (o - d.wd) r
def ne : Nat → List DV → Option (List DV)
 | n, [] => if n = 0 then some [] else none
 | n, d :: r => if n = 0 then some [] else if d.wd ≤ n then match ne (n - d.wd) r with | some l => some (d :: l) | none => none else none
def oQ : List DV → List DV → Option (List DV)
 | old, [] => some old
 | [], _ :: _ => none
 | .arr s n _ :: r, x :: new => match (Sh.arr n s).dec (x :: new) with
  | some (ys, new) => match oQ r new with | some l => some (.arr s n ys :: l) | none => none
  | none => none
 | _ :: r, x :: new => match x with
  | .arr _ _ _ => none
  | x => match oQ r new with | some l => some (x :: l) | none => none
def wC : List DV → List Ix → Option (List DV)
 | its, [] => some its
 | its, .off k :: p => match jl k its with | some its => wC its p | none => none
 | its, .ix i m sz :: p => match its with
  | .arr s m' ys :: _ => if m' = m then if s.sz = sz then wC (s.enc (ys.getD i s.dflt)) p else none else none
  | _ => none
def qf (new : List DV) : List Ix → List DV → Option (List DV)
 | [], its => oQ its new
 | .off k :: p, its => match jl k its with
  | some r => match qf new p r with | some l => some (DU k its ++ l) | none => none
  | none => none
 | .ix i m sz :: p, its => match its with
  | .arr s m' ys :: r => if m' = m then if s.sz = sz then match qf new p (s.enc (ys.getD i s.dflt)) with
   | some its => match s.dec its with
    | some (y, []) => some (.arr s m' (ys.set i y) :: r)
    | _ => none
   | none => none else none else none
  | _ => none
def EZ (f : TypeId → Option Sh) : List TypeId → Option Sh
 | [] => none
 | [t] => f t
 | t :: r => match f t, EZ f r with | some a, some b => some (.pair a b) | _, _ => none
def gH (P : Program) : Nat → TypeId → Option Sh
 | 0, _ => none
 | n + 1, t => match P.underlying t with
  | some (.int k) => some (.int k)
  | some .bool => some .bool
  | some .string => some .str
  | some (.slice e) => match gH P n e with | some s => some (.sl s) | none => none
  | some (.array m e) => match gH P n e with | some s => some (.arr m s) | none => none
  | some (.struct fs) => EZ (gH P n) (fs.toList.map (·.type))
  | _ => none
def wD (P : Program) : Nat → TypeId → List (Option (Nat × Sh))
 | 0, _ => [none]
 | n + 1, t => match P.underlying t with
  | some (.array m e) => match gH P 8 e with | some s => [some (m, s)] | none => (List.replicate m (wD P n e)).flatten
  | some (.struct fs) => fs.toList.flatMap fun f => wD P n f.type
  | _ => [none]
def oR : List (Option (Nat × Sh)) → List DV → Option (List DV)
 | [], its => match its with | [] => some [] | _ => none
 | none :: l, its => match its with
  | .arr _ _ _ :: _ => none
  | x :: r => match oR l r with | some l => some (x :: l) | none => none
  | [] => none
 | some (m, s) :: l, its => match (Sh.arr m s).dec its with
  | some (ys, r) => match oR l r with | some l => some (.arr s m ys :: l) | none => none
  | none => none
def fM (P : Program) (t : TypeId) : Bool := match P.underlying t with | some (.struct _) | some (.array _ _) => true | _ => false
def dE (P : Program) (t : TypeId) : Nat := match P.info? t with | some i => i.size | none => 0
def fb (P : Program) (t : TypeId) : Nat := match P.info? t with | some i => i.bytes | none => 0
def mO (P : Program) (t : TypeId) (its : List DV) : Option DV :=
 if fM P t then some (.agg its) else if (P.underlying t).isSome then match its with | [.arr _ _ _] => none | [v] => some v | _ => none else none
def yI : Value → DV
 | .agg cs => if cs.toList.all (·.oneCell') then .agg (cs.toList.map .sc) else .undef
 | .tuple cs => if cs.toList.all (·.oneCell') then .tup (cs.toList.map .sc) else .undef
 | v => .sc v
def DV.storable : DV → Bool
 | .undef | .tup _ | .arr _ _ _ => false
 | _ => true
def nf (P : Program) (t : TypeId) : Option (List DV) := match P.info? t with
 | some i => match i.zero with | some v => if (yI v).storable then oR (wD P 8 t) (yI v).items else none | none => none
 | none => none
def zeroK : Sh → List Value → Option (List Value)
 | .int k, cs => match cs with | .int k' n :: r => if k' = k then if n = 0 then some r else none else none | _ => none
 | .bool, cs => match cs with | .bool b :: r => if b then none else some r | _ => none
 | .str, cs => match cs with | .string s :: r => if s = ByteArray.empty then some r else none | _ => none
 | .pair a b, cs => match zeroK a cs with | some r => zeroK b r | none => none
 | .sl _, cs => match cs with | .slice none n _ :: r => if n = 0 then some r else none | _ => none
 | .arr n e, cs => zeroN (zeroK e) n cs
where
 zeroN (f : List Value → Option (List Value)) : Nat → List Value → Option (List Value)
  | 0, cs => some cs
  | n + 1, cs => match f cs with | some r => zeroN f n r | none => none
def jE (P : Program) (e : TypeId) (s : Sh) : Bool := match P.info? e with
 | some i => i.size == s.sz && decide (0 < s.sz) && (match i.zero with | some v => (match zeroK s v.cells.toList with | some r => r.isEmpty | none => false) | none => false)
 | none => false
def dh (T : List DV) : Operand → DV
 | .tmp t => T.getD t .undef
 | .const v => yI v
 | .global _ => .undef
 | .func f => .fn (.func f) [] []
def dv (T : List DV) (d : Option Tmp) (v : DV) : List DV := match d with | some d => T.set d v | none => T
def fi {α : Type} (P : Program) : Sem α → Option α
 | .pure a => some a
 | .program k => fi P (k P)
 | _ => none
inductive Sub where
 | none
 | vs (s : Sh) (xs : List s.T)
def Sub.whole : Sub → DV
 | .none => .undef
 | .vs s xs => .vs s xs
def Sub.part (o l : Nat) : Sub → DV
 | .none => .undef
 | .vs s xs => .vs s ((xs.drop o).take l)
mutual
def DV.sub (n : Nat) (g : Sub) : DV → DV
 | .rp m sz i p => if m = n then .undef else .rp m sz i p
 | .rw m => if m = n then g.whole else .rw m
 | .sl m o l => if m = n then g.part o l else .sl m o l
 | .fn F a b => .fn F (d6 n g a) (d6 n g b)
 | .agg cs => .agg (d6 n g cs)
 | .tup cs => .tup (d6 n g cs)
 | .tab ks vs => .tab ks (d6 n g vs)
 | v => v
def d6 (n : Nat) (g : Sub) : List DV → List DV
 | [] => []
 | d :: r => d.sub n g :: d6 n g r
end
def Blk.sub (n : Nat) (g : Sub) : Blk → Blk
 | .obj cs => .obj (d6 n g cs)
 | .mp ks vs => .mp ks (d6 n g vs)
 | b => b
def Heap.sub (n : Nat) (g : Sub) (H : Heap) : Heap := fun m => if m = n then none else match H m with | some b => some (b.sub n g) | none => none
mutual
def DV.bare : DV → DV
 | .rp _ _ _ _ => .undef
 | .rw _ => .undef
 | .sl _ _ _ => .undef
 | .fn F a b => .fn F (iC a) (iC b)
 | .agg cs => .agg (iC cs)
 | .tup cs => .tup (iC cs)
 | .tab ks vs => .tab ks (iC vs)
 | v => v
def iC : List DV → List DV
 | [] => []
 | d :: r => d.bare :: iC r
end
def At : DV → List Nat
 | .rw n => [n]
 | .sl n _ _ => [n]
 | _ => []
def Kc : DV → List Nat
 | .agg cs => cs.flatMap At
 | .tup cs => cs.flatMap At
 | d => At d
def oj : List Nat → List DV → List DV → Heap → List DV × List DV × Heap
 | [], A, T, H => (A, T, H)
 | n :: r, A, T, H => match H n with
  | some (.row _ s xs) => oj r (d6 n (.vs s xs) A) (d6 n (.vs s xs) T) (H.sub n (.vs s xs))
  | _ => oj r A T H
def jF (A T : List DV) (H : Heap) : List DV × List DV × Heap := oj (A.flatMap Kc) A T H
def kJ (H : Heap) : Nat → Nat → Nat
 | 0, b => b
 | k + 1, b => match H b with | none => b | some _ => kJ H k (b + 1)
def base (d : Nat) (t : Option Tmp) : Nat := 1000000 + (d * 1000 + t.getD 0) * 64
def fc (H : Heap) (s : Sh) : DV → Option (List s.T)
 | .vs s' xs => match s'.same s with | some ⟨h⟩ => some (h ▸ xs) | none => none
 | .sc (.slice none n _) => if n = 0 then some [] else none
 | .rw n => match H n with | some (.row _ s' xs) => (match s'.same s with | some ⟨h⟩ => some (h ▸ xs) | none => none) | _ => none
 | .sl n o l => match H n with | some (.row _ s' xs) => (match s'.same s with | some ⟨h⟩ => some ((h ▸ xs : List s.T).drop o |>.take l) | none => none) | _ => none
 | _ => none
def xZ (P : Program) (t : TypeId) (H : Heap) (x : DV) : Option Nat := match P.underlying t with
 | some .string => match x with | .sc (.string s) => some s.size | _ => none
 | some (.slice _) => match x with
  | .sc (.slice none n _) => if n = 0 then some 0 else none
  | .vs _ xs => some xs.length
  | .rw n => match H n with | some (.row _ _ xs) => some xs.length | _ => none
  | .sl _ _ l => some l
  | _ => none
 | some (.array n _) => some n
 | _ => none
inductive IK where
 | any
 | val (s : Sh)
 | row (E : TypeId) (s : Sh)
 | obj (i : Nat)
 | clo (F : FuncId) (caps : List Nat)
 | agf (s : Sh) (F : FuncId)
 | tab (ks : List (List Int)) (vs : List DV)
@[reducible] def hP : List IK → Type
 | [] => Unit
 | .val s :: r => s.T × hP r
 | .row _ s :: r => List s.T × hP r
 | .agf s _ :: r => s.T × hP r
 | _ :: r => hP r
@[reducible] def oS : List (List IK) → Type
 | [] => Unit
 | k :: r => hP k × oS r
@[reducible] def Sq (n : Nat) (l : List IK) : List IK := l ++ List.replicate (n - l.length) .any
structure Tmpl where
 ks : List IK
 os : List (List IK)
@[reducible] def Tmpl.Ty (t : Tmpl) : Type := hP t.ks × oS t.os
structure Nam where
 o : Nat → Nat
 r : Nat → Nat
def mW (ρ : Nam) : Nat → (ks : List IK) → hP ks → List DV
 | _, [], _ => []
 | c, .any :: r, x => .undef :: mW ρ (c + 1) r x
 | c, .val s :: r, x => s.val x.1 :: mW ρ (c + 1) r x.2
 | c, .row _ _ :: r, x => .rw (ρ.r c) :: mW ρ (c + 1) r x.2
 | c, .agf s F :: r, x => .agg (s.enc x.1 ++ [.fn (.func F) [] []]) :: mW ρ (c + 1) r x.2
 | c, .obj i :: r, x => .ptr (ρ.o i) 0 [] :: mW ρ (c + 1) r x
 | c, .clo F is :: r, x => .fn (.func F) [] (is.map fun i => .ptr (ρ.o i) 0 []) :: mW ρ (c + 1) r x
 | c, .tab ks vs :: r, x => .tab ks vs :: mW ρ (c + 1) r x
def ol (ρ : Nam) : Nat → (ks : List IK) → hP ks → List DV
 | _, [], _ => []
 | c, .any :: r, x => .undef :: ol ρ (c + 1) r x
 | c, .val s :: r, x => s.enc x.1 ++ ol ρ (c + 1) r x.2
 | c, .row _ _ :: r, x => .rw (ρ.r c) :: ol ρ (c + 1) r x.2
 | c, .agf s F :: r, x => (s.enc x.1 ++ [.fn (.func F) [] []]) ++ ol ρ (c + 1) r x.2
 | c, .obj i :: r, x => .ptr (ρ.o i) 0 [] :: ol ρ (c + 1) r x
 | c, .clo F is :: r, x => .fn (.func F) [] (is.map fun i => .ptr (ρ.o i) 0 []) :: ol ρ (c + 1) r x
 | c, .tab ks vs :: r, x => .tab ks vs :: ol ρ (c + 1) r x
def fC (ρ : Nam) : Nat → (ks : List IK) → hP ks → Heap → Heap
 | _, [], _, H => H
 | c, .val _ :: r, x, H => fC ρ (c + 1) r x.2 H
 | c, .agf _ _ :: r, x, H => fC ρ (c + 1) r x.2 H
 | c, .row E s :: r, x, H => fC ρ (c + 1) r x.2 (H.set (ρ.r c) (some (.row E s x.1)))
 | c, .any :: r, x, H => fC ρ (c + 1) r x H
 | c, .obj _ :: r, x, H => fC ρ (c + 1) r x H
 | c, .clo _ _ :: r, x, H => fC ρ (c + 1) r x H
 | c, .tab _ _ :: r, x, H => fC ρ (c + 1) r x H
def rC (ρ : Nam) : Nat → (os : List (List IK)) → oS os → Heap → Heap
 | _, [], _, H => H
 | i, k :: r, x, H => rC ρ (i + 1) r x.2 (fC ρ (1000 * (i + 1)) k x.1 (H.set (ρ.o i) (some (.obj (ol ρ (1000 * (i + 1)) k x.1)))))
def Tmpl.T (t : Tmpl) (ρ : Nam) (x : t.Ty) : List DV := mW ρ 0 t.ks x.1
def Tmpl.H (t : Tmpl) (ρ : Nam) (x : t.Ty) (H : Heap) : Heap := fC ρ 0 t.ks x.1 (rC ρ 0 t.os x.2 H)
structure Met where
 σ : List (Nat × Nat)
 u : List Nat
def Met.get (m : Met) (i : Nat) : Option Nat := (m.σ.find? fun e => e.1 == i).map (·.2)
def jm (H : Heap) (E : TypeId) (s : Sh) : DV → Option (List s.T × List Nat)
 | .sc (.slice none n c) => if n = 0 then if c = 0 then some ([], []) else none else none
 | .rw n => match H n with
  | some (.row E' s' xs) => if E' = E then match s'.same s with | some ⟨h⟩ => some (h ▸ xs, [n]) | none => none else none
  | _ => none
 | .sl n o l => match H n with
  | some (.row E' s' xs) => if o = 0 then if E' = E then match s'.same s with | some ⟨h⟩ => some ((h ▸ xs : List s.T).take l, [n]) | none => none else none else none
  | _ => none
 | _ => none
def pk : List Nat → List DV → Met → Option Met
 | [], l, m => if l.isEmpty then some m else none
 | i :: r, l, m => match l with
  | .ptr n 0 [] :: l => match m.get i with
   | some n' => if n = n' then pk r l m else none
   | none => pk r l ⟨(i, n) :: m.σ, m.u⟩
  | _ => none
def wE (s : Sh) (d : DV) : Option s.T := if s.multi then (match d with
  | .agg cs => match s.dec cs with | some (x, []) => some x | _ => none
  | _ => none)
 else match s.dec [d] with | some (x, []) => some x | _ => none
def eb (H : Heap) : (ks : List IK) → List DV → Met → Option (hP ks × Met)
 | [], T, m => match T with
  | [] => some ((), m)
  | _ => none
 | .any :: r, T, m => match T with
  | _ :: T => eb H r T m
  | [] => none
 | .val s :: r, T, m => match T with
  | d :: T => match wE s d with
   | some x => match eb H r T m with | some (y, m) => some ((x, y), m) | none => none
   | none => none
  | [] => none
 | .agf s F :: r, T, m => match T with
  | .agg cs :: T => match s.dec cs with
   | some (x, [.fn (.func F') [] []]) => if F' = F then match eb H r T m with | some (y, m) => some ((x, y), m) | none => none else none
   | _ => none
  | _ => none
 | .row E s :: r, T, m => match T with
  | d :: T => match jm H E s d with
   | some (xs, u) => match eb H r T ⟨m.σ, u ++ m.u⟩ with | some (y, m) => some ((xs, y), m) | none => none
   | none => none
  | [] => none
 | .obj i :: r, T, m => match T with
  | .ptr n 0 [] :: T => match m.get i with
   | some n' => if n = n' then eb H r T m else none
   | none => eb H r T ⟨(i, n) :: m.σ, m.u⟩
  | _ => none
 | .clo F is :: r, T, m => match T with
  | .fn (.func F') [] caps :: T => if F' = F then match pk is caps m with | some m => eb H r T m | none => none else none
  | _ => none
 | .tab _ _ :: _, _, _ => none
def fU (H : Heap) : (ks : List IK) → List DV → Met → Option (hP ks × Met)
 | [], T, m => match T with
  | [] => some ((), m)
  | _ => none
 | .any :: r, T, m => match T with
  | .arr _ _ _ :: _ => none
  | _ :: T => fU H r T m
  | [] => none
 | .val s :: r, T, m => match s.dec T with
  | some (x, T) => match fU H r T m with | some (y, m) => some ((x, y), m) | none => none
  | none => none
 | .agf s F :: r, T, m => match s.dec T with
  | some (x, .fn (.func F') [] [] :: T) => if F' = F then match fU H r T m with | some (y, m) => some ((x, y), m) | none => none else none
  | _ => none
 | .row E s :: r, T, m => match T with
  | d :: T => match jm H E s d with
   | some (xs, u) => match fU H r T ⟨m.σ, u ++ m.u⟩ with | some (y, m) => some ((xs, y), m) | none => none
   | none => none
  | [] => none
 | .obj i :: r, T, m => match T with
  | .ptr n 0 [] :: T => match m.get i with
   | some n' => if n = n' then fU H r T m else none
   | none => fU H r T ⟨(i, n) :: m.σ, m.u⟩
  | _ => none
 | .clo F is :: r, T, m => match T with
  | .fn (.func F') [] caps :: T => if F' = F then match pk is caps m with | some m => fU H r T m | none => none else none
  | _ => none
 | .tab _ _ :: _, _, _ => none
def mX (H : Heap) : Nat → (os : List (List IK)) → Met → Option (oS os × Met)
 | _, [], m => some ((), m)
 | i, k :: r, m => match m.get i with
  | some n => match H n with
   | some (.obj cs) => match fU H k cs m with
    | some (x, m) => match mX H (i + 1) r m with | some (y, m) => some ((x, y), m) | none => none
    | none => none
   | _ => none
  | none => none
def kK : List Nat → Bool
 | [] => true
 | a :: r => !r.contains a && kK r
def l3 (n : Nat) : Met := ⟨(List.range n).map fun i => (i, i), []⟩
def Tmpl.pr (t : Tmpl) (m0 : Met) (T : List DV) (H : Heap) : Option (t.Ty × Met) := match eb H t.ks T m0 with
 | some (x, m) => match mX H 0 t.os m with
  | some (y, m) => if kK (m.u ++ m.σ.map (·.2)) && kK (m.σ.map (·.1)) && m.σ.all (fun e => decide (e.1 < t.os.length)) then some ((x, y), m) else none
  | none => none
 | none => none
def dV (ρ : Nam) : Nat → List IK → List Nat
 | _, [] => []
 | c, .row _ _ :: r => ρ.r c :: dV ρ (c + 1) r
 | c, _ :: r => dV ρ (c + 1) r
def fP (ρ : Nam) : Nat → List (List IK) → List Nat
 | _, [] => []
 | i, k :: r => ρ.o i :: (dV ρ (1000 * (i + 1)) k ++ fP ρ (i + 1) r)
def Tmpl.names (t : Tmpl) (ρ : Nam) : List Nat := dV ρ 0 t.ks ++ fP ρ 0 t.os
def Tmpl.free (t : Tmpl) (ρ : Nam) (H : Heap) : Bool := kK (t.names ρ) && (t.names ρ).all fun n => (H n).isNone
inductive Ex where
 | norm
 | exit (id : Nat)
 | goto (l : Nat)
 | ret
@[reducible] def om : List (Ex × Tmpl) → Type
 | [] => Empty
 | [e] => e.2.Ty
 | e :: r => e.2.Ty ⊕ om r
def qh {α : Type} : (os : List (Ex × Tmpl)) → om os → (Ex → (t : Tmpl) → t.Ty → Option α) → Option α
 | [], _, _ => none
 | [e], y, k => k e.1 e.2 y
 | e :: f :: r, y, k => match y with
  | .inl y => k e.1 e.2 y
  | .inr y => qh (f :: r) y k
structure Loop where
 tin : Tmpl
 outs : List (Ex × Tmpl)
 X : Type
 into : X → tin.Ty
 back : tin.Ty → X
 R : Type
 out : R → om outs
 inn : om outs → R
 fn : X → Option R
structure FS where
 tin : Tmpl
 tout : Tmpl
 R : Type
 out : R → tout.Ty
 inn : tout.Ty → R
 fn : tin.Ty → Option R
def jS : List IK → Bool
 | [] => true
 | .row _ _ :: _ | .obj _ :: _ | .clo _ (_ :: _) :: _ => false
 | _ :: r => jS r
def FS.pure (S : FS) : Bool := jS S.tin.ks && S.tin.os.isEmpty && jS S.tout.ks && S.tout.os.isEmpty
structure Cx where
 P : Program
 loops : FuncId → Nat → Option Loop
 specs : FuncId → List FS
 tabs : FuncId → Option (Nat × List (List Int) × List FuncId)
 qs : FuncId → List FS
def mo (H : Heap) (b : Nat) (m : Met) : Nam := ⟨fun i => match m.get i with | some n => n | none => kJ H 63 (b + 64 * (400000 + i)), fun c => kJ H 63 (b + 64 * c)⟩
def Heap.away (m : Met) (H : Heap) : Heap := fun n => if m.σ.any (fun e => e.2 == n) then none else H n
def dw (u : List Nat) (H : Heap) : Heap := u.foldl (fun H n => H.sub n .none) H
def dL (u : List Nat) (T : List DV) : List DV := u.foldl (fun T n => d6 n .none T) T
def gh : Code → Nat
 | .region id _ _ => id
 | .seq a b => match a with | .skip | .label _ => gh b | a => gh a
 | .block _ c | .loop c | .scope c => gh c
 | _ => 0
def dy : Nam := ⟨fun i => i, fun c => 100000 + c⟩
def tU (xs : List Int) : ByteArray := ⟨(xs.map fun n => UInt8.ofNat n.toNat).toArray⟩
def tV (s : ByteArray) : List Int := s.data.toList.map fun b => (b.toNat : Int)
def bt (s : ByteArray) (i : Int) : Int := (s.data.toList.getD i.toNat 0).toNat
def Sh.eqT : (s : Sh) → s.T → s.T → Bool
 | .int _, (a : Int), b => a == b
 | .bool, (a : Bool), b => a == b
 | .str, (a : ByteArray), b => a.toList == b.toList
 | .pair x y, a, b => x.eqT a.1 b.1 && y.eqT a.2 b.2
 | .sl _, _, _ => false
 | .arr n e, a, b => (List.range n).all fun i => e.eqT (a.getD i e.dflt) (b.getD i e.dflt)
def vc (f : TypeId → Sh → Bool) (P : Program) : Nat → List Field → Sh → Bool
 | _, [], _ => false
 | o, [g], s => g.name != "_" && g.offset == o && f g.type s
 | o, g :: r, .pair a b => g.name != "_" && g.offset == o && f g.type a && vc f P (o + a.sz) r b
 | _, _, _ => false
def oT (P : Program) : Nat → TypeId → Sh → Bool
 | 0, _, _ => false
 | d + 1, t, s => dE P t == s.sz && decide (0 < s.sz) && match P.underlying t, s with
  | some (.int k), .int k' => k == k'
  | some .bool, .bool => true
  | some .string, .str => true
  | some (.struct fs), s => !P.stoodInHeld t && vc (oT P d) P 0 fs.toList s
  | some (.array m e), .arr n s => m == n && oT P d e s
  | _, _ => false
def Jo (P : Program) (t : TypeId) (a b : List DV) : Option Bool := match gH P 8 t with
 | some s => if fM P t && oT P 8 t s && !P.eqGuardType P.depth t then match s.dec a, s.dec b with
  | some (x, []), some (y, []) => some (s.eqT x y)
  | _, _ => none else none
 | none => none
section
variable {α : Type} (P : Program)
def ke (e : TypeId) (sz : Nat) : Bool := match P.info? e with
 | some i => i.size == sz
 | none => false
def x0 (op : BinOp) (t : TypeId) (a b : DV) (k : DV → Option α) : Option α :=
 match a, b with
 | .sc (.int ka a), .sc (.int kb b) => match op with
  | .quo => if ka = kb then if b == 0 then none else k (.sc (.int ka (ka.wrap (a.tdiv b)))) else none
  | .rem => if ka = kb then if b == 0 then none else k (.sc (.int ka (a.tmod b))) else none
  | .shl => if decide (b < 0) then none else k (.sc (.int ka (ka.wrap (a * 2 ^ (min b.toNat ka.bits)))))
  | .shr => if decide (b < 0) then none else k (.sc (.int ka (a.fdiv (2 ^ (min b.toNat ka.bits)))))
  | op => match fi P (binOp op t (.int ka a) (.int kb b)) with | some v => k (.sc v) | none => none
 | .sc (.string a), .sc (.string b) => match op with
  | .add => if decide (a.size + b.size ≤ 140737488351232) then k (.sc (.string (a ++ b))) else none
  | op => match fi P (Op.stringOp op a b) with | some v => k (.sc v) | none => none
 | .sc (.bool a), .sc (.bool b) => match op with
  | .eql => match P.underlying t with | some .bool => k (.sc (.bool (a == b))) | _ => none
  | .neq => match P.underlying t with | some .bool => k (.sc (.bool (a != b))) | _ => none
  | _ => none
 | .agg xs, .agg ys => match op with
  | .eql => match Jo P t xs ys with | some c => k (.sc (.bool c)) | none => none
  | .neq => match Jo P t xs ys with | some c => k (.sc (.bool !c)) | none => none
  | _ => none
 | .ptr _ _ _, .sc (.pointer none) => match op with
  | .eql => match P.underlying t with | some (.pointer _) => k (.sc (.bool false)) | _ => none
  | .neq => match P.underlying t with | some (.pointer _) => k (.sc (.bool true)) | _ => none
  | _ => none
 | .rp _ _ _ _, .sc (.pointer none) => match op with
  | .eql => match P.underlying t with | some (.pointer _) => k (.sc (.bool false)) | _ => none
  | .neq => match P.underlying t with | some (.pointer _) => k (.sc (.bool true)) | _ => none
  | _ => none
 | .sc (.pointer none), .sc (.pointer none) => match op with
  | .eql => match P.underlying t with | some (.pointer _) => k (.sc (.bool true)) | _ => none
  | .neq => match P.underlying t with | some (.pointer _) => k (.sc (.bool false)) | _ => none
  | _ => none
 | _, _ => none
def rD (i : Int) (n : Nat) : Bool := decide (0 ≤ i) && decide (i < (n : Int))
def rE (t : TypeId) (sz : Nat) : Bool := match P.underlying t with
 | some (.slice e) => ke P e sz
 | _ => false
def iD (t : TypeId) (H : Heap) (x : DV) (i : Int) (k : DV → Option α) : Option α := match x with
 | .vs s xs => if rE P t s.sz then if rD i xs.length then k (.pi (s.enc (xs.getD i.toNat s.dflt))) else none else none
 | .rw n => match H n with
  | some (.row _ s xs) => if rE P t s.sz then if rD i xs.length then k (.rp n s.sz i.toNat []) else none else none
  | _ => none
 | .sl n o l => match H n with
  | some (.row _ s _) => if rE P t s.sz then if rD i l then k (.rp n s.sz (o + i.toNat) []) else none else none
  | _ => none
 | .ptr n o p => match P.underlying t with
  | some (.array m e) => match H n with
   | some (.obj cs) => match jl o cs with
    | some its => match wC its p with
     | some (.arr s m' _ :: _) => if m' = m then if ke P e s.sz then if rD i m then k (.ptr n o (p ++ [.ix i.toNat m s.sz])) else none else none else none
     | some _ => match p with | [] => if ke P e (dE P e) then if rD i m then k (.ptr n (o + i.toNat * dE P e) []) else none else none | _ => none
     | none => none
    | none => none
   | _ => none
  | _ => none
 | .pi its => match P.underlying t with
  | some (.array m e) => match its with
   | .arr s m' ys :: _ => if m' = m then if ke P e s.sz then if rD i m then k (.pi (s.enc (ys.getD i.toNat s.dflt))) else none else none else none
   | _ => none
  | _ => none
 | _ => none
def pl (t : TypeId) (x : DV) (i : Int) (k : DV → Option α) : Option α := match x with
 | .sc (.string s) => match P.underlying t with | some .string => if rD i s.size then k (.sc (.int .u8 (bt s i))) else none | _ => none
 | .agg cs => match P.underlying t with
  | some (.array m e) => match cs with
   | [.arr s m' ys] => if m' = m then if dE P e = s.sz then if rD i m then match mO P e (s.enc (ys.getD i.toNat s.dflt)) with | some v => k v | none => none else none else none else none
   | cs => if rD i m then match jl (i.toNat * dE P e) cs with
    | some r => match ne (dE P e) r with
     | some its => match mO P e its with | some v => k v | none => none
     | none => none
    | none => none else none
  | _ => none
 | _ => none
def jT (t : TypeId) (H : Heap) : DV → Option DV
 | .ptr n o p => match H n with
  | some (.obj cs) => match wC cs (.off o :: p) with
   | some its => match ne (dE P t) its with | some its => mO P t its | none => none
   | none => none
  | _ => none
 | .rp n sz i p => match H n with
  | some (.row _ s xs) => if s.sz = sz then match wC (s.enc (xs.getD i s.dflt)) p with
   | some its => match ne (dE P t) its with | some its => mO P t its | none => none
   | none => none else none
  | _ => none
 | .pi its => match ne (dE P t) its with | some its => mO P t its | none => none
 | _ => none
def pn : List DV → Nat
 | [] => 0
 | d :: r => d.wd + pn r
def po (t : TypeId) (H : Heap) (a : DV) (v : DV) : Option (Nat × Blk) :=
 if v.storable = true then if ke P t (pn v.items) then match a with
 | .ptr n o p => match H n with
  | some (.obj cs) => match qf v.items (.off o :: p) cs with
   | some cs => some (n, .obj cs)
   | none => none
  | _ => none
 | .rp n sz i p => match H n with
  | some (.row E s xs) => if s.sz = sz then match qf v.items p (s.enc (xs.getD i s.dflt)) with
   | some its => match s.dec its with
    | some (y, []) => some (n, .row E s (xs.set i y))
    | _ => none
   | none => none else none
  | _ => none
 | _ => none else none else none
def tW (t : TypeId) (f : Nat) : Option (Nat × TypeId) := match P.underlying t with
 | some (.struct fs) => match fs[f]? with | some g => if dE P g.type = 0 then none else some (g.offset, g.type) | none => none
 | _ => none
def qi (t : TypeId) (x : DV) (f : Nat) : Option DV := match tW P t f with
 | some (o, _) => match x with
  | .ptr n o' p => match p with | [] => some (.ptr n (o' + o) []) | p => some (.ptr n o' (p ++ [.off o]))
  | .rp n sz i p => some (.rp n sz i (p ++ [.off o]))
  | .pi its => match jl o its with | some its => some (.pi its) | none => none
  | _ => none
 | none => none
def AF (t : TypeId) (x : DV) (f : Nat) : Option DV := match tW P t f with
 | some (o, u) => match x with
  | .agg cs => match jl o cs with
   | some r => match ne (dE P u) r with | some its => mO P u its | none => none
   | none => none
  | _ => none
 | none => none
def tX (place : Nat → Option (List Ix × Nat)) : List (Nat × DV) → List DV → Option (List DV)
 | [], cs => some cs
 | (i, v) :: r, cs => match (if v.storable then place i else none) with
  | some (p, n) => if pn v.items = n then match qf v.items p cs with | some cs => tX place r cs | none => none else none
  | none => none
def rF (t : TypeId) (i : Nat) : Option (List Ix × Nat) := match P.underlying t with
 | some (.struct fs) => if fs.toList.all (fun f => (P.info? f.type).isSome) then match fs[i]? with | some g => some ([.off g.offset], dE P g.type) | none => none else none
 | some (.array m e) => if ke P e (dE P e) then match gH P 8 e with
  | some s => if i < m then if s.sz = dE P e then some ([.ix i m s.sz], s.sz) else none else none
  | none => some ([.off (i * dE P e)], dE P e) else none
 | _ => none
def lF (t : TypeId) : Bool := match P.underlying t with
 | some (.struct fs) => fs.toList.all fun f => (P.info? f.type).isSome
 | some (.array _ e) => ke P e (dE P e)
 | _ => false
def x8 (s : Sh) : List DV → Option (List s.T)
 | [] => some []
 | v :: r => match (if v.storable then s.dec v.items else none) with
  | some (y, []) => match x8 s r with | some l => some (y :: l) | none => none
  | _ => none
def kL (x : DV) (n : Nat) (k : Nat → Option α) : Option α := match x with
 | .sc (.int _ i) => if decide (0 ≤ i) && decide (i ≤ (n : Int)) then k i.toNat else none
 | _ => none
def rG (lo : Option DV) (k : Nat → Nat → Option α) (h : Nat) : Option α := match lo with
 | some v => kL v h fun l => k l h
 | none => k 0 h
def gI (n : Nat) (lo hi : Option DV) (k : Nat → Nat → Option α) : Option α := match hi with
 | some v => kL v n (rG lo k)
 | none => rG lo k n
def kM (t : TypeId) (H : Heap) (x : DV) (lo hi mx : Option DV) (k : DV → Option α) : Option α := match mx with
 | some _ => none
 | none => match P.underlying t, x with
  | some .string, .sc (.string s) => gI s.size lo hi fun l h => k (.sc (.string (s.extract l h)))
  | some (.slice e), .vs s xs => if ke P e s.sz then gI xs.length lo hi fun l h => k (.vs s ((xs.take h).drop l)) else none
  | some (.slice e), .rw n => match H n with
   | some (.row E s xs) => if E = e then if ke P e s.sz then gI xs.length lo hi fun l h => k (.sl n l (h - l)) else none else none
   | _ => none
  | some (.slice e), .sl n o m => match H n with
   | some (.row E s _) => if E = e then if ke P e s.sz then gI m lo hi fun l h => k (.sl n (o + l) (h - l)) else none else none
   | _ => none
  | _, _ => none
def oo (c a b : DV) (k : DV → Option α) : Option α := match c with
 | .sc (.bool t) => match a, b with
  | .sc (.bool x), .sc (.bool y) => k (.sc (.bool (if t then x else y)))
  | .sc (.int ka x), .sc (.int kb y) => if ka = kb then k (.sc (.int ka (if t then x else y))) else none
  | a, b => if t then k a else k b
 | _ => none
def AG (k : IntKind) : Int → List DV → Option DV
 | x, [] => some (.sc (.int k x))
 | x, d :: r => match d with
  | .sc (.int k' y) => if k' = k then AG k (if y < x then y else x) r else none
  | _ => none
def AH (k : IntKind) : Int → List DV → Option DV
 | x, [] => some (.sc (.int k x))
 | x, d :: r => match d with
  | .sc (.int k' y) => if k' = k then AH k (if y > x then y else x) r else none
  | _ => none
abbrev fD := Option (Nat × Blk)
def Heap.act (H : Heap) : fD → Heap
 | none => H
 | some (n, b) => H.set n (some b)
def f6 (d : Nat) (o : Oper) (H : Heap) (b : Blk) (v : Nat → DV) (k : DV → fD → Option α) : Option α :=
 let n := kJ H 63 (base d o.dst)
 match H n with
 | some _ => none
 | none => k (v n) (some (n, b))
def iY (d : Nat) (o : Oper) (E : TypeId) (s : Sh) (x : DV) (ys : List s.T) (T : List DV) (H : Heap) (k : List DV → Heap → Option α) : Option α := match x with
 | .sc (.slice none z c) => if decide (z = 0) && decide (c = 0) && decide (ys.length * fb P E ≤ 140737488355328) && decide (1 ≤ fb P E) then f6 d o H (.row E s ys) .rw fun v a => k (dv T o.dst v) (H.act a) else none
 | .rw n => match H n with
  | some (.row E' s' xs) => if E' = E then match s'.same s with
   | some ⟨h⟩ => if decide (((h ▸ xs : List s.T).length + ys.length) * fb P E ≤ 140737488355328) && decide (1 ≤ fb P E) then k (dv (d6 n .none T) o.dst (.rw n)) ((H.sub n .none).set n (some (.row E s ((h ▸ xs : List s.T) ++ ys)))) else none
   | none => none else none
  | _ => none
 | .sl n z l => match H n with
  | some (.row E' s' xs) => if z = 0 then if E' = E then match s'.same s with
   | some ⟨h⟩ => if decide ((((h ▸ xs : List s.T).take l).length + ys.length) * fb P E ≤ 140737488355328) && decide (1 ≤ fb P E) then k (dv (d6 n .none T) o.dst (.rw n)) ((H.sub n .none).set n (some (.row E s ((h ▸ xs : List s.T).take l ++ ys)))) else none
   | none => none else none else none
  | _ => none
 | _ => none
end
def d9 : List (List Int) → List DV → Int → Option DV
 | l :: ks, d :: vs, n => if (l.any fun x => n == x) = true then some d else d9 ks vs n
 | _, _, _ => none
def kN (H : Heap) : DV → Option (List (List Int) × List DV)
 | .tab ks vs => some (ks, vs)
 | .mh n => match H n with
  | some (.mp ks vs) => some (ks, vs)
  | _ => none
 | _ => none
def vd {α : Type} : List (List Int) → List DV → DV → Int → (DV → Bool → Option α) → Option α
 | l :: ks, v :: vs, z, n, k => if (l.any fun x => n == x) = true then k v true else vd ks vs z n k
 | _, _, z, _, k => k z false
abbrev K (α : Type) := List DV → Heap → Option α
def eh {α : Type} (P : Program) (d : Nat) (o : Oper) (T : List DV) (H : Heap) (k : DV → fD → Option α) : Option α :=
 let ρ := dh T
 let v (x : DV) : Option α := k x none
 let ov (x : Option DV) : Option α := match x with | some x => k x none | none => none
 match o.op with
 | .move x | .assign x => v (ρ x)
 | .pick c a b => oo (ρ c) (ρ a) (ρ b) v
 | .alloc e => match nf P e with | some its => f6 d o H (.obj its) (fun n => .ptr n 0 []) k | none => none
 | .box e x => match oR (wD P 8 e) (ρ x).items with
  | some its => if (ρ x).storable = true then f6 d o H (.obj its) (fun n => .ptr n 0 []) k else none
  | none => none
 | .build t ps => match (if lF P t = true then nf P t else none) with
  | some its => match tX (rF P t) (ps.toList.map fun e => (e.1, ρ e.2)) its with
   | some its => v (.agg its)
   | none => none
  | none => none
 | .buildSlice t n ps => match P.underlying t with
  | some (.slice e) => match gH P 8 e with
   | some s => if ps.toList.map (·.1) = List.range n then if ke P e s.sz then match x8 s (ps.toList.map fun e => ρ e.2) with
    | some xs => if n * s.sz ≤ 4096 then if (decide (0 < s.sz) && (n == 0 || (nf P e).isSome)) = true then f6 d o H (.row e s xs) .rw k else none else none
    | none => none else none else none
   | none => none
  | _ => none
 | .load t a => ov (jT P t H (ρ a))
 | .store t a x => match po P t H (ρ a) (ρ x) with | some a => k .undef (some a) | none => none
 | .nilCheck x => match ρ x with
  | .ptr n o p => v (.ptr n o p)
  | .rp n sz i p => v (.rp n sz i p)
  | .pi its => v (.pi its)
  | .fn (.func g) a b => v (.fn (.func g) a b)
  | _ => none
 | .binOp op t x y _ => x0 P op t (ρ x) (ρ y) v
 | .unOp op _ x => match op, ρ x with
  | .not, .sc (.bool b) => v (.sc (.bool !b))
  | .neg, .sc (.int k n) => v (.sc (.int k (k.wrap (0 - n))))
  | _, _ => none
 | .convert s t x => match P.underlying s, P.underlying t, ρ x with
  | some (.int _), some (.int k), .sc (.int _ n) => v (.sc (.int k (k.wrap n)))
  | some .string, some .string, .sc (.string s) => v (.sc (.string s))
  | some (.slice e), some .string, y => match P.underlying e with
   | some (.int .u8) => (match fc H (.int .u8) y with | some xs => v (.sc (.string (tU xs))) | none => none)
   | _ => none
  | some .string, some (.slice e), .sc (.string s) => match P.underlying e with
   | some (.int .u8) => v (.vs (.int .u8) (tV s))
   | _ => none
  | _, _, _ => none
 | .makeFunc F a b => v (.fn F (a.toList.map ρ) (b.toList.map ρ))
 | .makeSlice t l c => match P.underlying t with
  | some (.slice e) => match gH P 8 e, ρ l, ρ c with
   | some s, .sc (.int .i64 n), .sc (.int .i64 m) => if decide (0 ≤ n) && (n == m) && decide (n * (fb P e : Int) ≤ 140737488355328) && decide (1 ≤ fb P e) then if jE P e s then f6 d o H (.row e s (List.replicate n.toNat s.dflt)) .rw k else none else none
   | _, _, _ => none
  | _ => none
 | .slice t x lo hi mx => kM P t H (ρ x) (lo.map ρ) (hi.map ρ) (mx.map ρ) v
 | .fieldAddr t x f => ov (qi P t (ρ x) f)
 | .field t x f => ov (AF P t (ρ x) f)
 | .indexAddr t x i => match ρ i with | .sc (.int _ i) => iD P t H (ρ x) i v | _ => none
 | .index t x i => match ρ i with | .sc (.int _ i) => pl P t (ρ x) i v | _ => none
 | .makeMap t none => match P.underlying t with
  | some (.map _ _) => f6 d o H (.mp [] []) .mh k
  | _ => none
 | .insert t m i x => match P.underlying t, ρ m, ρ i with
  | some (.map kt _), .mh n, .sc (.int .i64 j) => match P.underlying kt, H n with
   | some (.int .i64), some (.mp ks vs) => if (d9 ks vs j).isNone = true then k .undef (some (n, .mp ([j] :: ks) (ρ x :: vs))) else none
   | _, _ => none
  | _, _, _ => none
 | .lookup t x i c => match P.underlying t, kN H (ρ x), ρ i with
  | some (.map kt e), some (ks, vs), .sc (.int .i64 n) => match P.underlying kt, P.info? e with
   | some (.int .i64), some it => match it.zero with
    | some z => vd ks vs (yI z) n fun u b => v (if c then .tup [u, .sc (.bool b)] else u)
    | none => none
   | _, _ => none
  | _, _, _ => none
 | .extract x i => match ρ x with | .tup vs => ov vs[i]? | _ => none
 | .call c => match c.callee with
  | .builtin .len => match c.args.toList, c.argTypes[0]? with
   | [x], some t => (match xZ P t H (ρ x) with | some n => v (.sc (.int .i64 n)) | none => none)
   | _, _ => none
  | .builtin .min => match c.args.toList.map ρ with | .sc (.int k x) :: r => ov (AG k x r) | _ => none
  | .builtin .max => match c.args.toList.map ρ with | .sc (.int k x) :: r => ov (AH k x r) | _ => none
  | _ => none
 | _ => none
def Kd : DV → Bool
 | .rp _ _ _ _ => true
 | _ => false
def kO {α : Type} (P : Program) (d : Nat) (o : Oper) (T : List DV) (H : Heap) (k : K α) : Option α :=
 match o.op with
 | .buildSlice _ _ ps => match jF (ps.toList.map fun e => dh T e.2) T H with
  | (_, T, H) => eh P d o T H fun v a => k (dv T o.dst v) (H.act a)
 | .store _ x y => if Kd (dh T x) = true then (match jF [dh T y] T H with
  | (_, T, H) => eh P d o T H fun v a => k (dv T o.dst v) (H.act a)) else eh P d o T H fun v a => k (dv T o.dst v) (H.act a)
 | .call c => match c.callee with
  | .builtin .append => match c.args.toList, c.argTypes.toList with
   | [x, y], [t, t'] => if t = t' then match P.underlying t with
    | some (.slice e) => match gH P 8 e with
     | some s => if jE P e s then match fc H s (dh T y) with
      | some ys => iY P d o e s (dh T x) ys T H k
      | none => none else none
     | none => none
    | _ => none else none
   | _, _ => none
  | _ => eh P d o T H fun v a => k (dv T o.dst v) (H.act a)
 | _ => eh P d o T H fun v a => k (dv T o.dst v) (H.act a)
section
variable {α : Type} (cx : Cx)
def gm (P : Program) (f : FuncId) : Bool := match P.funcs[f]? with
 | some fn => fn.name != "runtime.NumGoroutine" && fn.body.isSome
 | none => false
abbrev gN (α : Type) := FuncId → List DV → Heap → (DV → Heap → Option (List Nat) → Option α) → Option α
def jU (T : List DV) : Option (List Nat) → List DV
 | some u => dL u T
 | none => iC T
def nB (g : FuncId) : Bool := false
def AI {β : Type} : List DV → (List DV → β) → β
 | [], k => k []
 | d :: r, k => AI r fun r => k (d :: r)
theorem yJ {β : Type} : ∀ (T : List DV) (k : List DV → β), AI T k = k T
 | [], _ => rfl
 | d :: r, k => yJ r fun r => k (d :: r)
def AJ {β : Type} (d : Option Nat) (T : List DV) (k : List DV → β) : β := match d with
 | some t => if Nat.beq (t % 8) 0 = true then AI T k else k T
 | none => k T
theorem yK {β : Type} (d : Option Nat) (T : List DV) (k : List DV → β) : AJ d T k = k T := by
 unfold AJ
 split
 ·split
  ·exact yJ _ _
  ·rfl
 ·rfl
def Cx.fl (cx : Cx) : Bool := (cx.loops 999999 0).isSome
def Jp {β : Type} (fl b : Bool) (x y : β) : β := Bool.rec (motive := fun _ => β) (if b = true then x else y) (Bool.rec (motive := fun _ => β) y x b) fl
theorem E0 {β : Type} (fl b : Bool) (x y : β) : Jp fl b x y = if b = true then x else y := by cases fl <;> cases b <;> rfl
def fe (call : gN α) (d : Nat) (ops : Array Oper) : List Oper → List DV → Heap → K α → Option α
 | [], T, H, k => k T H
 | o :: r, T, H, k => AJ o.dst T fun T =>
  let run (T : List DV) : Option α := match o.op with
   | .call c => match c.callee with
    | .value f => match dh T f with
     | .fn (.func g) a b => match (if nB g = true then (a ++ c.args.toList.map (dh T) ++ b, T, H) else jF (a ++ c.args.toList.map (dh T) ++ b) T H) with
      | (A, T, H) => call g A H fun v H u => fe call d ops r (dv (jU T u) o.dst v) H k
     | _ => none
    | _ => kO cx.P d o T H fun T H => fe call d ops r T H k
   | _ => kO cx.P d o T H fun T H => fe call d ops r T H k
  match o.guard with
  | none => run T
  | some (j, want) => match (ops[j]?).bind (·.dst) with
   | some g => match T.getD g .undef with
    | .sc (.bool b) =>
     Jp cx.fl b (Jp cx.fl want (run (T.set g (.sc (.bool true)))) (fe call d ops r (dv (T.set g (.sc (.bool true))) o.dst (.tup [])) H k))
      (Jp cx.fl want (fe call d ops r (dv (T.set g (.sc (.bool false))) o.dst (.tup [])) H k) (run (T.set g (.sc (.bool false)))))
    | .tup [] => fe call d ops r (dv T o.dst (.tup [])) H k
    | _ => none
   | none => none
def ig : DV → List Nat
 | .ptr n _ _ => [n]
 | .rp n _ _ _ => [n]
 | .rw n => [n]
 | .sl n _ _ => [n]
 | .mh n => [n]
 | _ => []
def rH (o : Oper) : Bool := match o.op with
 | .move _ | .assign _ | .extract _ _ | .nilCheck _ | .fieldAddr _ _ _ | .field _ _ _ | .binOp _ _ _ _ _ | .unOp _ _ _ | .pick _ _ _ | .makeFunc _ _ _ => false
 | _ => true
def fj (T : List DV) (o : Oper) : List Nat := if rH o = true then o.op.operands.toList.flatMap fun x => ig (dh T x) else []
def x9 (o : Oper) : Bool := match o.op with
 | .alloc _ | .box _ _ | .buildSlice _ _ _ | .makeSlice _ _ _ | .makeMap _ _ => true
 | _ => false
mutual
def DV.rows : DV → List Nat
 | .rp n _ _ _ => [n]
 | .rw n => [n]
 | .sl n _ _ => [n]
 | .fn _ a b => l5 a ++ l5 b
 | .agg cs => l5 cs
 | .tup cs => l5 cs
 | .tab _ vs => l5 vs
 | _ => []
def l5 : List DV → List Nat
 | [] => []
 | d :: r => d.rows ++ l5 r
end
def l6 : Option Blk → List Nat
 | some (.obj cs) => l5 cs
 | some (.mp _ vs) => l5 vs
 | _ => []
def fE (u h : List Nat) : Bool := u.all fun n => !h.contains n
structure Act2 where
 u : List Nat
 W : List Nat
 B : Heap
def Act2.of : fD → Act2
 | none => ⟨[], [], fun _ => none⟩
 | some (n, b) => ⟨[], [n], fun _ => some b⟩
def Heap.act2 (H : Heap) (a : Act2) : Heap := fun n => if a.W.contains n = true then a.B n else (dw a.u H) n
structure Did where
 o : Oper
 r : List Nat
 w : List Nat
 u : List Nat
 h : List Nat
 T : List DV
 H : Heap
def Au (ops : Array Oper) (T : List DV) (H : Heap) (o : Oper) (v : DV) (r : List Nat) (a : Act2) : List Nat := v.rows ++ ((o.looksAt ops).flatMap (fun t => (T.getD t .undef).rows) ++ (r.flatMap (fun n => l6 (H n)) ++ a.W.flatMap (fun n => l6 (a.B n))))
def iE (ops : Array Oper) (T : List DV) (H : Heap) (o : Oper) (v : DV) (r : List Nat) (a : Act2) : Did := ⟨o, r, a.W, a.u, Au ops T H o v r a, T, H⟩
def gt (d : Nat) (o : Oper) (n : Nat) : Bool := x9 o && decide (base d o.dst ≤ n) && decide (n < base d o.dst + 64)
def lG (u : List Nat) (H : Heap) (d : Nat) (o : Oper) : Bool := !x9 o || (List.range 64).all fun i => fE u (l6 (H (base d o.dst + i)))
def DW (d : Nat) (ops : Array Oper) (x y : Did) : Bool := (x.u.isEmpty || (fE x.u y.h && (lG x.u x.H d y.o && ((y.r.all fun n => fE x.u (l6 (x.H n))) && (y.o.looksAt ops).all fun t => fE x.u (x.T.getD t .undef).rows)))) && (y.u.isEmpty || (fE y.u x.h && lG y.u x.H d x.o))
def DX (d : Nat) (ops : Array Oper) (x y : Did) : Bool :=
 (x.w.all fun n => !y.r.contains n && (!y.w.contains n && !gt d y.o n)) &&
 ((y.w.all fun n => !x.r.contains n && !gt d x.o n) && DW d ops x y)
def iN (d : Nat) (ops : Array Oper) (x y : Did) : Bool := DX d ops x y && x.o.apart ops y.o
def uF (x : Did) : Bool := x.w.isEmpty && x.u.isEmpty
def i9 (anc : List Nat) (j i : Nat) : Bool := Nat.beq (anc.getD j 0 / 2 ^ i % 2) 1
def tY (acc : List Nat) : List Edge → Nat → Nat
 | [], m => m
 | e :: r, m => tY acc r (m ||| (2 ^ e.on ||| acc.getD e.on 0))
def rI : Nat → List Oper → List Nat → Option (List Nat)
 | _, [], acc => some acc
 | i, o :: r, acc => if (o.after.toList.filter (Region.binds .any)).all (fun e => decide (e.on < i)) then rI (i + 1) r (acc ++ [tY acc (o.after.toList.filter (Region.binds .any)) 0]) else none
def nP (ops : Array Oper) (anc : List Nat) : Bool := (List.range ops.size).all fun j => (List.range j).all fun i => i9 anc j i || match ops[i]?, ops[j]? with | some x, some y => x.apart ops y | _, _ => true
def gf : List DV → DV
 | [v] => v
 | l => .tup l
def jn : List FS → List DV → (DV → Option α) → Option (Option α)
 | [], _, _ => none
 | S :: r, A, k => if S.pure then match S.tin.pr ⟨[], []⟩ A (fun _ => none) with
  | some (x, _) => some ((S.fn x).bind fun y => k (gf (S.tout.T dy (S.out y))))
  | none => jn r A k else jn r A k
def wF : DV → Bool
 | .ptr _ _ _ => true
 | _ => false
def nQ (g : FuncId) (A : List DV) : Option DV := if gm cx.P g = true then match cx.tabs g with
 | some (n, ks, Fs) => if A.length = n then if A.all wF = true then some (.tab ks (Fs.map fun F => .fn (.func F) A [])) else none else none
 | none => none else none
def wG (anc : List Nat) (n j : Nat) : Bool := ((List.range j).all fun i => i9 anc j i) && (List.range n).all fun i => decide (i ≤ j) || i9 anc i j
def kf (b : Nat) (m : Met) : Nam := ⟨fun i => match m.get i with | some n => n | none => b + 64 * (400000 + i), fun c => b + 64 * c⟩
def oq : List FS → List DV → Heap → Nat → (DV → Act2 → Option α) → Option (Option α)
 | [], _, _, _, _ => none
 | S :: r, A, H, b, k => match S.tin.pr ⟨[], []⟩ A H with
  | some (x, m) => some ((S.fn x).bind fun y =>
   if S.tout.free (kf b m) ((dw m.u H).away m) = true then k (gf (S.tout.T (kf b m) (S.out y))) ⟨m.u, m.σ.map (·.2) ++ m.u ++ S.tout.names (kf b m), S.tout.H (kf b m) (S.out y) fun _ => none⟩ else none)
  | none => oq r A H b k
def AK (d : Nat) (o : Oper) : Nat := 10000000000000000 + (d * 1000 + o.dst.getD 0) * 1000000000
def d5 (P : Program) (d : Nat) (o : Oper) (E : TypeId) (s : Sh) (x : DV) (ys : List s.T) (H : Heap) (k : DV → Act2 → Option α) : Option α := match x with
 | .sc (.slice none z c) => if decide (z = 0) && decide (c = 0) && decide (ys.length * fb P E ≤ 140737488355328) && decide (1 ≤ fb P E) then (match H (base d o.dst) with
  | none => k (.rw (base d o.dst)) ⟨[], [base d o.dst], fun _ => some (.row E s ys)⟩
  | some _ => none) else none
 | .rw n => match H n with
  | some (.row E' s' xs) => if E' = E then match s'.same s with
   | some ⟨h⟩ => if decide (((h ▸ xs : List s.T).length + ys.length) * fb P E ≤ 140737488355328) && decide (1 ≤ fb P E) then k (.rw n) ⟨[n], [n], fun _ => some (.row E s ((h ▸ xs : List s.T) ++ ys))⟩ else none
   | none => none else none
  | _ => none
 | .sl n z l => match H n with
  | some (.row E' s' xs) => if z = 0 then if E' = E then match s'.same s with
   | some ⟨h⟩ => if decide ((((h ▸ xs : List s.T).take l).length + ys.length) * fb P E ≤ 140737488355328) && decide (1 ≤ fb P E) then k (.rw n) ⟨[n], [n], fun _ => some (.row E s ((h ▸ xs : List s.T).take l ++ ys))⟩ else none
   | none => none else none else none
  | _ => none
 | _ => none
def tZ (P : Program) (d : Nat) (o : Oper) (c : Call) (T : List DV) (H : Heap) (k : DV → Act2 → Option α) : Option α := match c.args.toList, c.argTypes.toList with
 | [x, y], [t, t'] => if t = t' then match P.underlying t with
  | some (.slice e) => match gH P 8 e with
   | some s => if jE P e s = true then match fc H s (dh T y) with
    | some ys => d5 P d o e s (dh T x) ys H k
    | none => none else none
   | none => none
  | _ => none else none
 | _, _ => none
def jG : List FS → List DV → Heap → (DV → List Nat → Option α) → Option (Option α)
 | [], _, _, _ => none
 | S :: r, A, H, k => match S.tin.pr ⟨[], []⟩ A H with
  | some (x, m) => some ((S.fn x).bind fun y => k (gf (S.tout.T dy (S.out y))) (m.σ.map (·.2) ++ m.u))
  | none => jG r A H k
def ya (call : gN α) (d N : Nat) (anc : List Nat) (o : Oper) (j : Nat) (T : List DV) (H : Heap) (next : DV → fD → Option α) (soft : List Nat → DV → Act2 → Option α) (on : K α) : Option α := match o.op with
 | .call c => match c.callee with
  | .value f => match dh T f with
   | .fn (.func g) a b => match nQ cx g (a ++ c.args.toList.map (dh T) ++ b) with
    | some v => next v none
    | none => match (if gm cx.P g = true then jn (cx.specs g) (a ++ c.args.toList.map (dh T) ++ b) (fun v => next v none) else none) with
     | some r => r
     | none => match (if gm cx.P g = true then jG (cx.qs g) (a ++ c.args.toList.map (dh T) ++ b) H (fun v rd => soft rd v ⟨[], [], fun _ => none⟩) else none) with
     | some r => r
     | none => if wG anc N j then match (if nB g = true then (a ++ c.args.toList.map (dh T) ++ b, T, H) else jF (a ++ c.args.toList.map (dh T) ++ b) T H) with
      | (A, T, H) => call g A H fun v H u => on (dv (jU T u) o.dst v) H
      else match (if gm cx.P g = true then oq (cx.specs g) (a ++ c.args.toList.map (dh T) ++ b) H (AK d o) (fun v a => soft a.W v a) else none) with
       | some r => r
       | none => none
   | _ => none
  | .builtin .append => if wG anc N j then kO cx.P d o T H on else tZ cx.P d o c T H fun v a => soft (fj T o ++ a.W) v a
  | _ => eh cx.P d o T H next
 | .store _ x _ => if (Kd (dh T x) && wG anc N j) = true then kO cx.P d o T H on else eh cx.P d o T H next
 | _ => eh cx.P d o T H next
def qZ (ops : Array Oper) (anc : List Nat) (d j : Nat) (q : Bool) (log : List (Nat × Did)) (x : Did) : Bool := (q && uF x) || log.all fun e => (uF e.2 && uF x) || (i9 anc j e.1 || DX d ops e.2 x)
def dJ (call : gN α) (d : Nat) (ops : Array Oper) (anc : List Nat) : List Oper → Nat → Bool → List (Nat × Did) → List DV → Heap → K α → Option α
 | [], _, _, _, T, H, k => k T H
 | o :: r, j, q, log, T, H, k =>
  let next (T : List DV) (v : DV) (a : fD) : Option α :=
   if qZ ops anc d j q log (iE ops T H o v (fj T o) (Act2.of a)) = true then dJ call d ops anc r (j + 1) (q && a.isNone) ((j, iE ops T H o v (fj T o) (Act2.of a)) :: log) (dv T o.dst v) (H.act a) k else none
  let soft (T : List DV) (rd : List Nat) (v : DV) (a : Act2) : Option α :=
   if qZ ops anc d j q log (iE ops T H o v rd a) = true then dJ call d ops anc r (j + 1) false ((j, iE ops T H o v rd a) :: log) (dv (dL a.u T) o.dst v) (H.act2 a) k else none
  let run (T : List DV) : Option α := ya cx call d ops.size anc o j T H (next T) (soft T) (fun T H => dJ call d ops anc r (j + 1) true [] T H k)
  match o.guard with
  | none => run T
  | some (j, want) => match (ops[j]?).bind (·.dst) with
   | some g => match T.getD g .undef with
    | .sc (.bool b) =>
     if b then (if want then run (T.set g (.sc (.bool true))) else next (T.set g (.sc (.bool true))) (.tup []) none)
     else (if want then next (T.set g (.sc (.bool false))) (.tup []) none else run (T.set g (.sc (.bool false))))
    | .tup [] => next T (.tup []) none
    | _ => none
   | none => none
def kP (body : List DV → Heap → (Ex → List DV → Heap → Option α) → Option α) : Nat → List DV → Heap → (Ex → List DV → Heap → Option α) → Option α
 | 0, _, _, _ => none
 | n + 1, T, H, k => body T H fun e T H => match e with
  | .norm => kP body n T H k
  | e => k e T H
def t7 : List IK → List DV → List Nat
 | .val (.sl _) :: ks, d :: T => At d ++ t7 ks T
 | _ :: ks, _ :: T => t7 ks T
 | _, _ => []
def rJ (L : Loop) (b : Nat) (T : List DV) (H : Heap) (k : Ex → List DV → Heap → Option α) : Option α := match L.tin.pr ⟨[], []⟩ T H with
 | some (x, m) => (L.fn (L.back x)).bind fun y => qh L.outs (L.out y) fun e t y =>
  let H' := dw m.u H
  let ρ := mo H' b m
  if t.free ρ (H'.away m) = true then k e (t.T ρ y) (t.H ρ y (H'.away m)) else none
 | none => none
def ot (L : Loop) (b : Nat) (T : List DV) (H : Heap) (k : Ex → List DV → Heap → Option α) : Option α := match oj (t7 L.tin.ks T) [] T H with
 | (_, T, H) => rJ L b T H k
def JB (L : Loop) (T : List DV) (H : Heap) : Bool := match oj (t7 L.tin.ks T) [] T H with
 | (_, T, H) => (L.tin.pr ⟨[], []⟩ T H).isSome
def Pa (b : Code) : Nat := 1000000 + gh b
def E1 (f : FuncId) (b : Code) (T : List DV) (H : Heap) : Option Loop := match cx.loops f (Pa b) with
 | some L => if (L.tin.pr ⟨[], []⟩ T H).isSome = true then some L else none
 | none => none
def He (b : List DV → Heap → (Ex → List DV → Heap → Option α) → Option α) (k : Ex → List DV → Heap → Option α) (e : Ex) (T : List DV) (H : Heap) : Option α := match e with
 | .norm => b T H k
 | e => k e T H
def AL (c : Operand) (t : Bool) (T : List DV) : List DV := match c with | .tmp i => T.set i (.sc (.bool t)) | _ => T
def dO (call : gN α) (f d : Nat) : Code → List DV → Heap → (Ex → List DV → Heap → Option α) → Option α
 | .skip, T, H, k => k .norm T H
 | .label _, T, H, k => k .norm T H
 | .region _ ops draw, T, H, k => if draw then match rI 0 ops.toList [] with
   | some anc => if (cx.P.follows .mixedOrders && nP ops anc) = true then dJ cx call d ops anc ops.toList 0 true [] T H fun T H => k .norm T H else none
   | none => none
  else fe cx call d ops ops.toList T H fun T H => k .norm T H
 | .seq a b, T, H, k => match E1 cx f b T H with
  | some L => ot L (2000000000 + (d * 1000 + 500 + gh b) * 100000000) T H fun e T H => He (dO call f d b) k e T H
  | none => dO call f d a T H fun e T H => He (dO call f d b) k e T H
 | .cond c a b, T, H, k => match dh T c with
  | .sc (.bool t) => if t then dO call f d a (AL c true T) H k else dO call f d b (AL c false T) H k
  | _ => none
 | .block id c, T, H, k => dO call f d c T H fun e T H => match e with
  | .exit j => if j = id then k .norm T H else k (.exit j) T H
  | e => k e T H
 | .loop c, T, H, k => match cx.loops f (gh c) with
  | some L => if JB L T H = true then ot L (2000000000 + (d * 1000 + gh c) * 100000000) T H k else kP (dO call f d c) 64 T H k
  | none => kP (dO call f d c) 64 T H k
 | .scope c, T, H, k => dO call f d c T H fun e T H => match e with
  | .goto _ => none
  | e => k e T H
 | .exit id, T, H, k => k (.exit id) T H
 | .goto l, T, H, k => k (.goto l) T H
 | .ret, T, H, k => k .ret T H
 | .refuse _, _, _, _ => none
 | .rangeFunc _ _ _ _, _, _, _ => none
def lH (P : Program) (T : List DV) (H : Heap) : List ResultVar → Option (List DV)
 | [] => some []
 | .tmp t :: r => match lH P T H r with | some l => some (T.getD t .undef :: l) | none => none
 | .cell a t :: r => match jT P t H (T.getD a .undef), lH P T H r with | some v, some l => some (v :: l) | _, _ => none
def ou : List FS → (T : List DV) → Heap → Nat → (DV → Heap → Option (List Nat) → Option α) → Option (Option α)
 | [], _, _, _, _ => none
 | S :: r, A, H, b, k => match S.tin.pr ⟨[], []⟩ A H with
  | some (x, m) => some ((S.fn x).bind fun y =>
   let H' := dw m.u H
   let ρ := mo H' b m
   if S.tout.free ρ (H'.away m) = true then k (gf (S.tout.T ρ (S.out y))) (S.tout.H ρ (S.out y) (H'.away m)) (some m.u) else none)
  | none => ou r A H b k
def jV (call : gN α) (f d : Nat) (A : List DV) (H : Heap) (k : DV → Heap → Option α) : Option α := match cx.P.funcs[f]? with
 | some fn => match fn.body with
  | some c => dO cx call f d c (A ++ List.replicate (fn.ntmps - A.length) .undef) H fun e T H => match e with
   | .norm => (match lH cx.P T H fn.results.toList with | some vs => k (gf vs) H | none => none)
   | .ret => (match lH cx.P T H fn.results.toList with | some vs => k (gf vs) H | none => none)
   | _ => none
  | none => none
 | none => none
def fN : Nat → Nat → gN α
 | 0, _, _, _, _, _ => none
 | n + 1, d, f, A, H, k => if gm cx.P f = true then match nQ cx f A with
  | some v => k v H (some [])
  | none => match ou (cx.specs f) A H (3000000000 + d * 100000000000) k with
   | some r => r
   | none => if ((cx.specs f).isEmpty || (cx.specs f).any fun S => !S.pure) = true then jV cx (fN n (d + 1)) f d A H fun v H => k v H none else none
  else none
end
end Go.Proofs.Dk
namespace Go.Proofs.Dk
open Go Go.RowKit
def Sh.K (R : Nat → Prop) (w : World) : (s : Sh) → s.T → List Value → Prop
 | .int k, n, cs => cs = [.int k n]
 | .bool, b, cs => cs = [.bool b]
 | .str, s, cs => cs = [.string s]
 | .pair a b, x, cs => ∃ c1 c2, cs = c1 ++ c2 ∧ a.K R w x.1 c1 ∧ b.K R w x.2 c2
 | .sl e, xs, cs => ∃ A cap, cs = [.slice A xs.length cap] ∧ xs.length ≤ cap ∧ (xs ≠ [] → ∃ a, A = some a ∧ a.spot = none ∧ R a.block ∧ ∀ i x, xs[i]? = some x → ∃ c, c.length = e.sz ∧ e.K R w x c ∧ ∀ j u, c[j]? = some u → w.cell? (a.add (i * e.sz + j)) = some u)
 | .arr n e, xs, cs => xs.length = n ∧ cs.length = n * e.sz ∧ ∀ i x, xs[i]? = some x → e.K R w x ((cs.drop (i * e.sz)).take e.sz)
theorem Sh.K_len {R : Nat → Prop} {w : World} : ∀ {s : Sh} {x : s.T} {cs : List Value}, s.K R w x cs → cs.length = s.sz
 | .int _, _, _, h => by cases h; rfl
 | .bool, _, _, h => by cases h; rfl
 | .str, _, _, h => by cases h; rfl
 | .pair a b, x, _, ⟨c1, c2, e, h1, h2⟩ => by rw [e, aT, K_len h1, K_len h2]; rfl
 | .sl _, _, _, ⟨A, cap, e, _⟩ => by rw [e]; rfl
 | .arr n e, _, _, ⟨_, h, _⟩ => h
structure Keeps (R R' : Nat → Prop) (w w' : World) : Prop where
 sub : ∀ b, R b → R' b
 same : ∀ b, R b → w'.heap[b]? = w.heap[b]?
theorem Keeps.refl (R : Nat → Prop) (w : World) : Keeps R R w w := ⟨fun _ h => h, fun _ _ => rfl⟩
theorem Keeps.trans {R R1 R2 : Nat → Prop} {w w1 w2 : World} (h : Keeps R R1 w w1) (k : Keeps R1 R2 w1 w2) : Keeps R R2 w w2 := ⟨fun b hb => k.sub b (h.sub b hb), fun b hb => (k.same b (h.sub b hb)).trans (h.same b hb)⟩
theorem ow {w w' : World} {a : Addr} (h : w'.heap[a.block]? = w.heap[a.block]?) : w'.cell? a = w.cell? a := World.cell?_of_block h
theorem iz (a : Addr) (n : Nat) : (a.add n).block = a.block := by unfold Addr.add; split <;> rfl
theorem Sh.K_keep {R R' : Nat → Prop} {w w' : World} (hk : Keeps R R' w w') : ∀ {s : Sh} {x : s.T} {cs : List Value}, s.K R w x cs → s.K R' w' x cs
 | .int _, _, _, h => h
 | .bool, _, _, h => h
 | .str, _, _, h => h
 | .pair a b, x, _, ⟨c1, c2, e, h1, h2⟩ => ⟨c1, c2, e, K_keep hk h1, K_keep hk h2⟩
 | .sl e, xs, _, ⟨A, cap, h1, h2, h3⟩ => ⟨A, cap, h1, h2, fun hn => by
   obtain ⟨a, e1, e2, e3, e4⟩ := h3 hn
   refine ⟨a, e1, e2, hk.sub _ e3, fun i x hx => ?_⟩
   obtain ⟨c, g1, g2, g3⟩ := e4 i x hx
   exact ⟨c, g1, K_keep hk g2, fun j u hu => (ow (by rw [iz]; exact hk.same _ e3)).trans (g3 j u hu)⟩⟩
 | .arr n e, xs, _, ⟨h1, h2, h3⟩ => ⟨h1, h2, fun i x hx => K_keep hk (h3 i x hx)⟩
inductive Ent where
 | obj (b : Nat)
 | row (sz : Nat) (v : Value)
def Ent.blk : Ent → Option Nat
 | .obj b => some b
 | .row _ v => v.ownBlock
structure In where
 ι : Nat → Option Ent
 R : Nat → Prop
def dT : List Ix → Nat
 | [] => 0
 | .ix i _ sz :: p => i * sz + dT p
 | .off k :: p => k + dT p
def ox : List Ix → Prop
 | [] => True
 | .ix i m _ :: p => i < m ∧ ox p
 | .off _ :: p => ox p
def _root_.Go.Proofs.Dk.DV.imm : DV → Bool
 | .sc _ | .vs _ _ | .arr _ _ _ => true
 | _ => false
structure TabE (ks : List (List Int)) (vs : List DV) (val : Int → Value) (es : List MapEntry) : Prop where
 keys : ∀ e ∈ es, ∃ n, e.key = .int .i64 n
 here : ∀ e ∈ es, ∀ n, e.key = .int .i64 n → val n = e.val ∧ (d9 ks vs n).isSome = true
 all : ∀ n, (d9 ks vs n).isSome = true → ∃ e ∈ es, e.key = .int .i64 n
theorem TabE.map {ks : List (List Int)} {vs vs' : List DV} {val : Int → Value} {es : List MapEntry} {f : DV → DV} (h : TabE ks vs val es) (hv : ∀ n, d9 ks vs' n = (d9 ks vs n).map f) : TabE ks vs' val es :=
 ⟨h.keys, fun e he n hn => ⟨(h.here e he n hn).1, by rw [hv, Option.isSome_map]; exact (h.here e he n hn).2⟩, fun n hn => h.all n (by rw [hv, Option.isSome_map] at hn; exact hn)⟩
mutual
inductive VR (I : In) (w : World) : DV → Value → Prop where
 | undef (v : Value) : VR I w .undef v
 | sc (v : Value) (h : v.oneCell' = true) : VR I w (.sc v) v
 | ptr (n o : Nat) (p : List Ix) (b : Nat) (h : I.ι n = some (.obj b)) (hp : ox p) : VR I w (.ptr n o p) (.pointer (some ⟨b, o + dT p, none⟩))
 | rp (n sz i : Nat) (p : List Ix) (b len cap : Nat) (h : I.ι n = some (.row sz (.slice (some ⟨b, 0, none⟩) len cap))) (hi : i < len) (hp : ox p) : VR I w (.rp n sz i p) (.pointer (some ⟨b, i * sz + dT p, none⟩))
 | pi (its : List DV) (a : Addr) (cs : List Value) (hs : a.spot = none) (hR : I.R a.block) (him : ∀ d ∈ its, d.imm = true) (h : CR I w its cs) (hc : ∀ j u, cs[j]? = some u → w.cell? (a.add j) = some u) : VR I w (.pi its) (.pointer (some a))
 | rw (n sz : Nat) (v : Value) (h : I.ι n = some (.row sz v)) (hs : ∃ A l c, v = .slice A l c) : VR I w (.rw n) v
 | sl (n o l sz : Nat) (A A' : Option Addr) (len cap cap' : Nat) (h : I.ι n = some (.row sz (.slice A len cap))) (hl : o + l ≤ len) (h0 : o = 0 → A' = A ∧ cap' = cap) (h1 : 0 < l → ∃ b, A = some ⟨b, 0, none⟩ ∧ A' = some ⟨b, o * sz, none⟩) (hc : l ≤ cap') : VR I w (.sl n o l) (.slice A' l cap')
 | vs (s : Sh) (xs : List s.T) (v : Value) (h : (Sh.sl s).K I.R w xs [v]) : VR I w (.vs s xs) v
 | fn (F : Fn) (a b : List DV) (a' b' : Array Value) (h1 : LR I w a a'.toList) (h2 : LR I w b b'.toList) : VR I w (.fn F a b) (.func F a' b')
 | agg (ds : List DV) (cs : Array Value) (h : CR I w ds cs.toList) : VR I w (.agg ds) (.agg cs)
 | tup (ds : List DV) (vs : Array Value) (h : LR I w ds vs.toList) : VR I w (.tup ds) (.tuple vs)
 | tab (ks : List (List Int)) (vs : List DV) (val : Int → Value) (b : Nat) (es : Array MapEntry) (clock : Nat) (hR : I.R b) (hb : w.heap[b]? = some (.map es clock)) (hE : TabE ks vs val es.toList) (h : ∀ n d, d9 ks vs n = some d → VR I w d (val n)) : VR I w (.tab ks vs) (.map (some b))
 | mh (n b : Nat) (h : I.ι n = some (.obj b)) : VR I w (.mh n) (.map (some b))
inductive CR (I : In) (w : World) : List DV → List Value → Prop where
 | nil : CR I w [] []
 | one (d : DV) (r : List DV) (u : Value) (cs : List Value) (h : VR I w d u) (hu : u.oneCell' = true) (hr : CR I w r cs) : CR I w (d :: r) (u :: cs)
 | arr (s : Sh) (n : Nat) (xs : List s.T) (r : List DV) (c cs : List Value) (h : (Sh.arr n s).K I.R w xs c) (h1 : ∀ u ∈ c, u.oneCell' = true) (hr : CR I w r cs) : CR I w (.arr s n xs :: r) (c ++ cs)
inductive LR (I : In) (w : World) : List DV → List Value → Prop where
 | nil : LR I w [] []
 | cons (d : DV) (r : List DV) (u : Value) (vs : List Value) (h : VR I w d u) (hr : LR I w r vs) : LR I w (d :: r) (u :: vs)
end
theorem Sh.K_one {R : Nat → Prop} {w : World} : ∀ {s : Sh} {x : s.T} {cs : List Value}, s.K R w x cs → ∀ u ∈ cs, u.oneCell' = true
 | .int _, _, _, h, u, hu => by cases h; simp at hu; subst hu; rfl
 | .bool, _, _, h, u, hu => by cases h; simp at hu; subst hu; rfl
 | .str, _, _, h, u, hu => by cases h; simp at hu; subst hu; rfl
 | .pair a b, x, _, ⟨c1, c2, e, h1, h2⟩, u, hu => by
  rw [e, az] at hu
  rcases hu with hu | hu
  ·exact K_one h1 u hu
  ·exact K_one h2 u hu
 | .sl _, _, _, ⟨A, cap, e, _⟩, u, hu => by rw [e] at hu; simp at hu; subst hu; rfl
 | .arr n e, xs, cs, ⟨h1, h2, h3⟩, u, hu => by
  obtain ⟨j, hj, rfl⟩ := cu hu
  have hz : 0 < e.sz := by
   rcases bV e.sz with h | h
   ·rw [h2, h] at hj; omega
   ·exact h
  have hi : j / e.sz < n := by rw [Nat.div_lt_iff_lt_mul hz]; omega
  have hx : xs[j / e.sz]? = some (xs[j / e.sz]'(by omega)) := aF _
  refine K_one (h3 _ _ hx) _ ?_
  have hm : j % e.sz < e.sz := Nat.mod_lt _ hz
  have hj2 : j / e.sz * e.sz + j % e.sz = j := by rw [Nat.mul_comm]; exact Nat.div_add_mod j e.sz
  have hg : ((cs.drop (j / e.sz * e.sz)).take e.sz)[j % e.sz]? = some cs[j] := by
   rw [aY, if_pos hm, ba, hj2, aF hj]
  exact cv hg
theorem CR.append {I : In} {w : World} : ∀ {a b : List DV} {c d : List Value}, CR I w a c → CR I w b d → CR I w (a ++ b) (c ++ d)
 | _, _, _, _, .nil, h => h
 | _, _, _, _, .one d r u cs h hu hr, k => .one d _ u _ h hu (CR.append hr k)
 | _, _, _, _, .arr s n xs r c cs h h1 hr, k => by
  rw [aL]
  exact .arr s n xs _ c _ h h1 (CR.append hr k)
theorem Sh.enc_ok {I : In} {w : World} : ∀ {s : Sh} {x : s.T} {cs : List Value}, s.K I.R w x cs → CR I w (s.enc x) cs
 | .int k, n, _, h => by cases h; exact .one _ _ _ _ (.sc _ rfl) rfl .nil
 | .bool, b, _, h => by cases h; exact .one _ _ _ _ (.sc _ rfl) rfl .nil
 | .str, s, _, h => by cases h; exact .one _ _ _ _ (.sc _ rfl) rfl .nil
 | .pair a b, x, _, ⟨c1, c2, e, h1, h2⟩ => by rw [e]; exact CR.append (enc_ok h1) (enc_ok h2)
 | .sl e, xs, cs, h => by
  obtain ⟨A, cap, rfl, h2⟩ := id h
  exact .one _ _ _ _ (.vs e xs _ h) rfl .nil
 | .arr n e, xs, cs, h => by
  have := CR.arr (I := I) (w := w) e n xs [] cs [] h (K_one h) .nil
  simpa [Sh.enc] using this
theorem Sh.enc_imm : ∀ (s : Sh) (x : s.T), ∀ d ∈ s.enc x, d.imm = true
 | .int _, _, d, h => by simp only [Sh.enc, ax] at h; subst h; rfl
 | .bool, _, d, h => by simp only [Sh.enc, ax] at h; subst h; rfl
 | .str, _, d, h => by simp only [Sh.enc, ax] at h; subst h; rfl
 | .pair a b, x, d, h => by
  simp only [Sh.enc, az] at h
  rcases h with h | h
  ·exact enc_imm a _ d h
  ·exact enc_imm b _ d h
 | .sl _, _, d, h => by simp only [Sh.enc, ax] at h; subst h; rfl
 | .arr _ _, _, d, h => by simp only [Sh.enc, ax] at h; subst h; rfl
theorem CH {I : In} {w : World} {e : Sh} (f : List DV → Option (e.T × List DV))
  (hf : ∀ {its r : List DV} {x : e.T} {cs : List Value}, f its = some (x, r) → CR I w its cs → ∃ c1 c2, cs = c1 ++ c2 ∧ e.K I.R w x c1 ∧ CR I w r c2) :
  ∀ (n : Nat) {its r : List DV} {xs : List e.T} {cs : List Value}, AE f n its = some (xs, r) → CR I w its cs → ∃ c1 c2, cs = c1 ++ c2 ∧ (Sh.arr n e).K I.R w xs c1 ∧ CR I w r c2
 | 0, its, r, xs, cs, h, hc => by
  simp only [AE, aa, ah] at h
  obtain ⟨rfl, rfl⟩ := h
  exact ⟨[], cs, rfl, ⟨rfl, by simp, fun i x hx => by simp at hx⟩, hc⟩
 | n + 1, its, r, xs, cs, h, hc => by
  simp only [AE] at h
  split at h
  ·rename_i x r1 h1
   split at h
   ·rename_i ys r2 h2
    simp only [aa, ah] at h
    obtain ⟨rfl, rfl⟩ := h
    obtain ⟨c1, c2, rfl, k1, k2⟩ := hf h1 hc
    obtain ⟨d1, d2, rfl, ⟨m1, m2, m3⟩, m4⟩ := CH f hf n h2 k2
    have hl := Sh.K_len k1
    refine ⟨c1 ++ d1, d2, by simp, ⟨by simp [m1], by simp [m2, hl, bx, bF], fun i y hy => ?_⟩, m4⟩
    cases i with
    | zero =>
     simp only [bp, aa] at hy
     subst hy
     simpa [bz (aV hl.symm), aW (aV hl)] using k1
    | succ i =>
     simp only [cw] at hy
     have := m3 i y hy
     rw [aQ, bF, ← bG, bW (aV hl.symm), ci (aV hl), bb]
     exact this
   ·cases h
  ·cases h
theorem Sh.dec_ok {I : In} {w : World} : ∀ {s : Sh} {its r : List DV} {x : s.T} {cs : List Value}, s.dec its = some (x, r) → CR I w its cs → ∃ c1 c2, cs = c1 ++ c2 ∧ s.K I.R w x c1 ∧ CR I w r c2
 | .int k, its, r, x, cs, h, hc => by
  simp only [Sh.dec] at h
  split at h
  ·split at h
   ·rename_i k' n r' hk
    simp only [aa, ah] at h
    obtain ⟨rfl, rfl⟩ := h
    subst hk
    cases hc with
    | one _ _ u c2 hv hu hr => cases hv; exact ⟨[_], c2, rfl, rfl, hr⟩
   ·cases h
  ·cases h
 | .bool, its, r, x, cs, h, hc => by
  simp only [Sh.dec] at h
  split at h
  ·simp only [aa, ah] at h
   obtain ⟨rfl, rfl⟩ := h
   cases hc with
   | one _ _ u c2 hv hu hr => cases hv; exact ⟨[_], c2, rfl, rfl, hr⟩
  ·cases h
 | .str, its, r, x, cs, h, hc => by
  simp only [Sh.dec] at h
  split at h
  ·simp only [aa, ah] at h
   obtain ⟨rfl, rfl⟩ := h
   cases hc with
   | one _ _ u c2 hv hu hr => cases hv; exact ⟨[_], c2, rfl, rfl, hr⟩
  ·cases h
 | .pair a b, its, r, x, cs, h, hc => by
  simp only [Sh.dec] at h
  split at h
  ·rename_i x1 r1 h1
   split at h
   ·rename_i y r2 h2
    simp only [aa, ah] at h
    obtain ⟨rfl, rfl⟩ := h
    obtain ⟨c1, c2, rfl, k1, k2⟩ := dec_ok h1 hc
    obtain ⟨d1, d2, rfl, m1, m2⟩ := dec_ok h2 k2
    exact ⟨c1 ++ d1, d2, by simp, ⟨c1, d1, rfl, k1, m1⟩, m2⟩
   ·cases h
  ·cases h
 | .sl e, its, r, x, cs, h, hc => by
  simp only [Sh.dec] at h
  split at h
  ·rename_i e' xs r'
   split at h
   ·rename_i hs hq
    cases hs
    simp only [aa, ah] at h
    obtain ⟨rfl, rfl⟩ := h
    cases hc with
    | one _ _ u c2 hv hu hr => cases hv with | vs _ _ _ hk => exact ⟨[u], c2, rfl, hk, hr⟩
   ·cases h
  ·rename_i n cap r'
   split at h
   ·rename_i hn
    subst hn
    simp only [aa, ah] at h
    obtain ⟨rfl, rfl⟩ := h
    cases hc with
    | one _ _ u c2 hv hu hr => cases hv; exact ⟨[_], c2, rfl, ⟨none, cap, rfl, aq _, fun h => absurd rfl h⟩, hr⟩
   ·cases h
  ·cases h
 | .arr n e, its, r, x, cs, h, hc => by
  simp only [Sh.dec] at h
  split at h
  ·rename_i e' n' xs r'
   split at h
   ·rename_i hn
    subst hn
    split at h
    ·rename_i hs hq
     cases hs
     simp only [aa, ah] at h
     obtain ⟨rfl, rfl⟩ := h
     cases hc with
     | one _ _ u c2 hv hu hr => cases hv
     | arr _ _ _ _ c c2 hk h1 hr => exact ⟨c, c2, rfl, hk, hr⟩
    ·cases h
   ·cases h
  ·exact CH _ (fun h1 h2 => dec_ok h1 h2) n h hc
end Go.Proofs.Dk
namespace Go.Proofs.Dk
open Go Go.RowKit
variable {I : In} {w : World}
theorem CR.len : ∀ {its : List DV} {cs : List Value}, CR I w its cs → cs.length = pn its
  | _, _, .nil => rfl
  | _, _, .one d r u cs h hu hr => by
    have := CR.len hr
    cases h <;> simp [pn, DV.wd, this, bF]
  | _, _, .arr s n xs r c cs h h1 hr => by
    have := CR.len hr
    have h2 : c.length = n * s.sz := Sh.K_len h
    simp [pn, DV.wd, this, h2]
theorem CR.ones : ∀ {its : List DV} {cs : List Value}, CR I w its cs → ∀ u ∈ cs, u.oneCell' = true
  | _, _, .nil, u, hu => by cases hu
  | _, _, .one d r v cs h hv hr, u, hu => by
    rcases aC.1 hu with rfl | hu
    · exact hv
    · exact CR.ones hr u hu
  | _, _, .arr s n xs r c cs h h1 hr, u, hu => by
    rcases az.1 hu with hu | hu
    · exact h1 u hu
    · exact CR.ones hr u hu
theorem CR.head {d : DV} {r : List DV} {cs : List Value} (h : CR I w (d :: r) cs) : ∃ c1 c2, cs = c1 ++ c2 ∧ c1.length = d.wd ∧ CR I w [d] c1 ∧ CR I w r c2 := by
  cases h with
  | one _ _ u c hv hu hr =>
    refine ⟨[u], c, rfl, ?_, .one _ _ _ _ hv hu .nil, hr⟩
    cases hv <;> rfl
  | arr s n xs _ c c2 hk h1 hr =>
    refine ⟨c, c2, rfl, Sh.K_len hk, ?_, hr⟩
    have := CR.arr (I := I) (w := w) s n xs [] c [] hk h1 .nil
    simpa using this
theorem CR.cons {d : DV} {r : List DV} {c1 c2 : List Value} (h : CR I w [d] c1) (hr : CR I w r c2) : CR I w (d :: r) (c1 ++ c2) := by
  have := CR.append h hr
  simpa using this
theorem lI : ∀ {its : List DV} {o : Nat} {r : List DV} {cs : List Value}, jl o its = some r → CR I w its cs → ∃ c1 c2, cs = c1 ++ c2 ∧ c1.length = o ∧ CR I w (DU o its) c1 ∧ CR I w r c2
  | [], o, r, cs, h, hc => by
    simp only [jl] at h
    split at h
    · rename_i ho
      simp only [aa] at h
      subst h ho
      exact ⟨[], cs, rfl, rfl, .nil, hc⟩
    · cases h
  | d :: l, o, r, cs, h, hc => by
    simp only [jl] at h
    split at h
    · rename_i ho
      simp only [aa] at h
      subst h ho
      exact ⟨[], cs, rfl, rfl, .nil, hc⟩
    · rename_i ho
      split at h
      · rename_i hw
        obtain ⟨c1, c2, rfl, hl, h1, h2⟩ := hc.head
        obtain ⟨d1, d2, rfl, hm, k1, k2⟩ := lI h h2
        refine ⟨c1 ++ d1, d2, by simp, by simp [hl, hm]; omega, ?_, k2⟩
        simp only [DU, ho, au]
        exact h1.cons k1
      · cases h
theorem lJ : ∀ {its : List DV} {n : Nat} {l : List DV} {cs : List Value}, ne n its = some l → CR I w its cs → ∃ c1 c2, cs = c1 ++ c2 ∧ c1.length = n ∧ CR I w l c1
  | [], n, l, cs, h, hc => by
    simp only [ne] at h
    split at h
    · rename_i ho
      simp only [aa] at h
      subst h ho
      exact ⟨[], cs, rfl, rfl, .nil⟩
    · cases h
  | d :: r, n, l, cs, h, hc => by
    simp only [ne] at h
    split at h
    · rename_i ho
      simp only [aa] at h
      subst h ho
      exact ⟨[], cs, rfl, rfl, .nil⟩
    · rename_i ho
      split at h
      · rename_i hw
        split at h
        · rename_i l' hl'
          simp only [aa] at h
          subst h
          obtain ⟨c1, c2, rfl, hl, h1, h2⟩ := hc.head
          obtain ⟨d1, d2, rfl, hm, k1⟩ := lJ hl' h2
          exact ⟨c1 ++ d1, d2, by simp, by simp [hl, hm]; omega, h1.cons k1⟩
        · cases h
      · cases h
def dP (cs : List Value) (o : Nat) (d : List Value) : List Value := cs.take o ++ d ++ cs.drop (o + d.length)
theorem iF {cs d : List Value} {o : Nat} (h : o + d.length ≤ cs.length) : (dP cs o d).length = cs.length := by
  simp [dP]; omega
theorem iZ {c1 c2 d : List Value} {o : Nat} : dP (c1 ++ c2) (c1.length + o) d = c1 ++ dP c2 o d := by
  simp only [dP]
  rw [bH, List.take_length_add_append, List.drop_length_add_append]
  simp
theorem nR {c1 c2 d : List Value} {o : Nat} (h : o + d.length ≤ c1.length) : dP (c1 ++ c2) o d = dP c1 o d ++ c2 := by
  simp only [dP]
  rw [bz (by omega), bW (by omega)]
  simp
theorem wH {c d : List Value} {i sz o : Nat} (h : o + d.length ≤ sz) (hle : i + sz ≤ c.length) : dP c i (dP ((c.drop i).take sz) o d) = dP c (i + o) d := by
  obtain ⟨a, m, z, rfl, ha, hm⟩ : ∃ a m z, c = a ++ (m ++ z) ∧ a.length = i ∧ m.length = sz :=
    ⟨c.take i, (c.drop i).take sz, (c.drop i).drop sz, by rw [bA, bA], by simp; omega, by simp; omega⟩
  subst ha hm
  have e1 : ((a ++ (m ++ z)).drop a.length).take m.length = m := by simp
  rw [e1, iZ, nR h]
  have := iF h
  simp only [dP] at this ⊢
  have e2 : (a ++ (m ++ z)).drop (a.length + (List.take o m ++ d ++ List.drop (o + d.length) m).length) = z := by
    rw [List.drop_length_add_append, this]
    simp
  rw [e2]
  simp
theorem yb : ∀ {old new l : List DV} {c d : List Value}, oQ old new = some l → CR I w old c → CR I w new d → d.length ≤ c.length ∧ CR I w l (d ++ c.drop d.length)
  | old, [], l, c, d, h, hc, hd => by
    cases hd
    cases old <;> (simp only [oQ, aa] at h; subst h; exact ⟨aq _, by simpa using hc⟩)
  | [], x :: new, l, c, d, h, hc, hd => by simp [oQ] at h
  | o :: r, x :: new, l, c, d, h, hc, hd => by
    obtain ⟨c1, c2, rfl, hl, h1, h2⟩ := hc.head
    by_cases ho : ∃ s n xs, o = .arr s n xs
    · obtain ⟨s, n, xs, rfl⟩ := ho
      simp only [oQ] at h
      split at h
      · rename_i ys new' hy
        split at h
        · rename_i l' hl'
          simp only [aa] at h
          subst h
          obtain ⟨d1, d2, rfl, k1, k2⟩ := Sh.dec_ok hy hd
          obtain ⟨m1, m2⟩ := yb hl' h2 k2
          have e1 : d1.length = n * s.sz := Sh.K_len k1
          have e2 : c1.length = n * s.sz := hl
          refine ⟨by simp; omega, ?_⟩
          have := CR.arr (I := I) (w := w) s n ys _ d1 _ k1 (Sh.K_one k1) m2
          have e3 : (d1 ++ d2) ++ (c1 ++ c2).drop (d1 ++ d2).length = d1 ++ (d2 ++ c2.drop d2.length) := by
            rw [aT, aL, show d1.length + d2.length = c1.length + d2.length by omega, ← bG]
            simp
          rw [e3]
          exact this
        · cases h
      · cases h
    · have hnx : ∀ s n xs, x ≠ .arr s n xs := by
        rintro s n xs rfl
        cases o <;> first | exact absurd ⟨_, _, _, rfl⟩ ho | (simp [oQ] at h)
      have hp : ∃ l', oQ r new = some l' ∧ l = x :: l' := by
        cases o <;> first
          | exact absurd ⟨_, _, _, rfl⟩ ho
          | (cases x <;> first
              | exact absurd rfl (hnx _ _ _)
              | (simp only [oQ] at h
                 split at h
                 · rename_i l' hl'
                   simp only [aa] at h
                   exact ⟨l', hl', h.symm⟩
                 · cases h))
      obtain ⟨l', hl', rfl⟩ := hp
      cases hd with
      | arr s n xs _ _ _ _ _ _ => exact absurd rfl (hnx s n xs)
      | one _ _ u d2 hv hu hr =>
        obtain ⟨m1, m2⟩ := yb hl' h2 hr
        have hc1 : c1.length = 1 := by
          rw [hl]
          cases o <;> first | rfl | exact absurd ⟨_, _, _, rfl⟩ ho
        obtain ⟨u0, rfl⟩ : ∃ u0, c1 = [u0] := by
          match c1, hc1 with
          | [u0], _ => exact ⟨u0, rfl⟩
        exact ⟨by simpa using m1, by simpa using .one _ _ _ _ hv hu m2⟩
theorem getD_some {α : Type} (xs : List α) (i : Nat) (d : α) (h : i < xs.length) : xs[i]? = some (xs.getD i d) := by
  rw [aF h, av, aF h]
  rfl
theorem wI : ∀ {p : List Ix} {its its' : List DV} {cs : List Value}, wC its p = some its' → ox p → CR I w its cs → ∃ cs', CR I w its' cs' ∧ ∀ (j : Nat) (u : Value), cs'[j]? = some u → cs[dT p + j]? = some u
  | [], its, its', cs, h, _, hc => by
    simp only [wC, aa] at h
    subst h
    exact ⟨cs, hc, fun j u hu => by simpa [dT] using hu⟩
  | .off k :: p, its, its', cs, h, hp, hc => by
    simp only [wC] at h
    split at h
    · rename_i r hr
      obtain ⟨c1, c2, rfl, hl, _, h2⟩ := lI hr hc
      obtain ⟨cs', k1, k2⟩ := wI h hp h2
      refine ⟨cs', k1, fun j u hu => ?_⟩
      have := k2 j u hu
      simp only [dT]
      rw [bg (by omega), ← this]
      congr 1
      omega
    · cases h
  | .ix i m sz :: p, its, its', cs, h, hp, hc => by
    simp only [wC] at h
    split at h
    · rename_i s m' ys r
      split at h
      · rename_i hm
        subst hm
        split at h
        · rename_i hz
          subst hz
          cases hc with
          | one _ _ u c2 hv hu hr => cases hv
          | arr _ _ _ _ c c2 hk h1 hr =>
            obtain ⟨k1, k2, k3⟩ := hk
            have hi : i < ys.length := by rw [k1]; exact hp.1
            have hx := k3 i _ (getD_some ys i s.dflt hi)
            obtain ⟨cs', g1, g2⟩ := wI h hp.2 (Sh.enc_ok hx)
            refine ⟨cs', g1, fun j u hu => ?_⟩
            have h3 := g2 j u hu
            rw [aY] at h3
            split at h3
            · rename_i hlt
              rw [ba] at h3
              simp only [dT]
              rw [bc (by
                have := (List.getElem?_eq_some_iff.1 h3).1
                omega), ← h3]
              congr 1
              omega
            · cases h3
        · cases h
      · cases h
    · cases h
theorem Jq {R : Nat → Prop} {s : Sh} {n : Nat} {xs : List s.T} {c d : List Value} {i : Nat} {y : s.T} (h : (Sh.arr n s).K R w xs c) (hi : i < n) (hd : s.K R w y d) : (Sh.arr n s).K R w (xs.set i y) (dP c (i * s.sz) d) ∧ i * s.sz + d.length ≤ c.length := by
  obtain ⟨h1, h2, h3⟩ := h
  have hl := Sh.K_len hd
  have hle : i * s.sz + s.sz ≤ n * s.sz := by
    rw [← aQ]
    exact aU _ hi
  refine ⟨⟨by simp [h1], by rw [iF (by omega)]; exact h2, fun j x hx => ?_⟩, by omega⟩
  have hlen : (c.take (i * s.sz)).length = i * s.sz := by simp; omega
  by_cases e : j = i
  · subst e
    have hx2 : x = y := by
      have hj : j < xs.length := by omega
      simpa [bB, hj] using hx.symm
    subst hx2
    have e1 : ((dP c (j * s.sz) d).drop (j * s.sz)).take s.sz = d := by
      simp only [dP]
      rw [aL, bW (by omega), ci (by omega), bb, bz (by omega), aW (by omega)]
    rw [e1]
    exact hd
  · rw [bB, if_neg (Ne.symm e)] at hx
    have h4 := h3 j x hx
    have e1 : ((dP c (i * s.sz) d).drop (j * s.sz)).take s.sz = (c.drop (j * s.sz)).take s.sz := by
      apply cy
      intro q
      simp only [aY, ba]
      split
      · rename_i hq
        have hj : j < n := by
          have := (List.getElem?_eq_some_iff.1 hx).1
          omega
        simp only [dP]
        rcases Nat.lt_or_gt_of_ne e with hlt | hgt
        · have : j * s.sz + s.sz ≤ i * s.sz := by rw [← aQ]; exact aU _ hlt
          rw [aL, bc (by omega), aY, if_pos (by omega)]
        · have : i * s.sz + s.sz ≤ j * s.sz := by rw [← aQ]; exact aU _ hgt
          rw [bg (by simp; omega), ba]
          congr 1
          simp
          omega
      · rfl
    rw [e1]
    exact h4
theorem pp : ∀ {p : List Ix} {its its' new : List DV} {cs d : List Value}, qf new p its = some its' → ox p → CR I w its cs → CR I w new d → dT p + d.length ≤ cs.length ∧ CR I w its' (dP cs (dT p) d)
  | [], its, its', new, cs, d, h, _, hc, hd => by
    simp only [qf] at h
    obtain ⟨h1, h2⟩ := yb h hc hd
    exact ⟨by simpa [dT] using h1, by simpa [dT, dP] using h2⟩
  | .off k :: p, its, its', new, cs, d, h, hp, hc, hd => by
    simp only [qf] at h
    split at h
    · rename_i r hr
      split at h
      · rename_i l hl
        simp only [aa] at h
        subst h
        obtain ⟨c1, c2, rfl, hlen, h1, h2⟩ := lI hr hc
        obtain ⟨k1, k2⟩ := pp hl hp h2 hd
        refine ⟨by simp [dT]; omega, ?_⟩
        have e : dP (c1 ++ c2) (k + dT p) d = c1 ++ dP c2 (dT p) d := by rw [← hlen, iZ]
        simp only [dT]
        rw [e]
        exact h1.append k2
      · cases h
    · cases h
  | .ix i m sz :: p, its, its', new, cs, d, h, hp, hc, hd => by
    simp only [qf] at h
    split at h
    · rename_i s m' ys r
      split at h
      · rename_i hm
        subst hm
        split at h
        · rename_i hz
          subst hz
          split at h
          · rename_i l hl
            split at h
            · rename_i y hy
              simp only [aa] at h
              subst h
              cases hc with
              | one _ _ u c2 hv hu hr => cases hv
              | arr _ _ _ _ c c2 hk h1 hr =>
                obtain ⟨k1, k2, k3⟩ := id hk
                have hi : i < ys.length := by rw [k1]; exact hp.1
                have hx := k3 i _ (getD_some ys i s.dflt hi)
                obtain ⟨g1, g2⟩ := pp hl hp.2 (Sh.enc_ok hx) hd
                obtain ⟨d1, d2, e1, e2, e3⟩ := Sh.dec_ok hy g2
                cases e3
                rw [aK] at e1
                subst e1
                obtain ⟨q1, q2⟩ := Jq hk hp.1 e2
                have hle : i * s.sz + s.sz ≤ m' * s.sz := by rw [← aQ]; exact aU _ hp.1
                have hlx := Sh.K_len hx
                have hb : i * s.sz + dT p + d.length ≤ c.length := by omega
                have hs : dP c (i * s.sz) (dP ((c.drop (i * s.sz)).take s.sz) (dT p) d) = dP c (i * s.sz + dT p) d := wH (by omega) (by omega)
                refine ⟨by simp [dT]; omega, ?_⟩
                simp only [dT]
                rw [nR hb, ← hs]
                exact .arr s m' _ _ _ _ q1 (Sh.K_one q1) hr
            · cases h
          · cases h
        · cases h
      · cases h
    · cases h
theorem CI {P : Program} {t : TypeId} {its : List DV} {v : DV} {cs : List Value} (h : mO P t its = some v) (hc : CR I w its cs) :
    (fM P t = true ∧ VR I w v (.agg cs.toArray)) ∨ (fM P t = false ∧ (P.underlying t).isSome = true ∧ ∃ u, cs = [u] ∧ VR I w v u ∧ u.oneCell' = true) := by
  unfold mO at h
  split at h
  · rename_i hm
    simp only [aa] at h
    subst h
    exact .inl ⟨hm, .agg _ _ (by simpa using hc)⟩
  · rename_i hm
    split at h
    · rename_i hud
      split at h
      · cases h
      · rename_i d hd
        simp only [aa] at h
        subst h
        cases hc with
        | arr s n xs _ _ _ _ _ _ => exact absurd rfl (hd s n xs)
        | one _ _ u c2 hv hu hr => cases hr; exact .inr ⟨by simpa using hm, hud, u, rfl, hv, hu⟩
      · cases h
    · cases h
theorem t8 : ∀ {l : List (Option (Nat × Sh))} {its out : List DV} {cs : List Value}, oR l its = some out → CR I w its cs → CR I w out cs
  | [], its, out, cs, h, hc => by
    cases its with
    | nil => simp only [oR, aa] at h; subst h; exact hc
    | cons a b => simp [oR] at h
  | none :: l, its, out, cs, h, hc => by
    simp only [oR] at h
    split at h
    · cases h
    · rename_i x r hx
      split at h
      · rename_i l' hl'
        simp only [aa] at h
        subst h
        obtain ⟨c1, c2, rfl, _, h1, h2⟩ := hc.head
        exact h1.cons (t8 hl' h2)
      · cases h
    · cases h
  | some (m, s) :: l, its, out, cs, h, hc => by
    simp only [oR] at h
    split at h
    · rename_i ys r hy
      split at h
      · rename_i l' hl'
        simp only [aa] at h
        subst h
        obtain ⟨d1, d2, rfl, k1, k2⟩ := Sh.dec_ok hy hc
        exact .arr s m ys _ _ _ k1 (Sh.K_one k1) (t8 hl' k2)
      · cases h
    · cases h
end Go.Proofs.Dk
namespace Go.Proofs.Dk
open Go Go.RowKit
theorem rK : ∀ (ks : List (List Int)) (vs : List DV) (n : Int), d9 ks (iC vs) n = (d9 ks vs n).map DV.bare
 | [], vs, n => by cases vs <;> rfl
 | l :: ks, [], n => rfl
 | l :: ks, v :: vs, n => by
  simp only [iC, d9]
  split
  ·rfl
  ·exact rK ks vs n
theorem kg {m : Nat} {g : Sub} : ∀ (ks : List (List Int)) (vs : List DV) (n : Int), d9 ks (d6 m g vs) n = (d9 ks vs n).map (DV.sub m g)
 | [], vs, n => by cases vs <;> rfl
 | l :: ks, [], n => rfl
 | l :: ks, v :: vs, n => by
  simp only [d6, d9]
  split
  ·rfl
  ·exact kg ks vs n
section
variable {I I' : In} {w w' : World}
structure Same (I I' : In) (w w' : World) : Prop where
 keeps : Keeps I.R I'.R w w'
 obj : ∀ n b, I.ι n = some (.obj b) → I'.ι n = some (.obj b)
 row : ∀ n sz v, I.ι n = some (.row sz v) → I'.ι n = some (.row sz v)
theorem kQ (hk : Keeps I.R I'.R w w') : ∀ {d : List DV} {v : List Value}, CR I w d v → (∀ x ∈ d, x.imm = true) → CR I' w' d v
 | _, _, .nil, _ => .nil
 | _, _, .one d r u cs h hu hr, hi => by
  have h1 := hi d (aM ..)
  refine .one d r u cs ?_ hu (kQ hk hr (fun x hx => hi x (aB _ hx)))
  cases h with
  | sc _ h => exact .sc _ h
  | vs s xs _ h => exact .vs s xs _ (Sh.K_keep hk h)
  | _ => cases h1
 | _, _, .arr s n xs r c cs h h1 hr, hi => .arr s n xs r c cs (Sh.K_keep hk h) h1 (kQ hk hr (fun x hx => hi x (aB _ hx)))
mutual
theorem VR.keep (hs : Same I I' w w') : ∀ {d : DV} {v : Value}, VR I w d v → VR I' w' d v
 | _, _, .undef v => .undef v
 | _, _, .sc v h => .sc v h
 | _, _, .ptr n o p b h hp => .ptr n o p b (hs.obj _ _ h) hp
 | _, _, .rp n sz i p b len cap h hi hp => .rp n sz i p b len cap (hs.row _ _ _ h) hi hp
 | _, _, .pi its a cs h0 hR him h hc => .pi its a cs h0 (hs.keeps.sub _ hR) him (kQ hs.keeps h him) (fun j u hu => (ow (by rw [iz]; exact hs.keeps.same _ hR)).trans (hc j u hu))
 | _, _, .rw n sz v h h2 => .rw n sz v (hs.row _ _ _ h) h2
 | _, _, .sl n o l sz A A' len cap cap' h hl h0 h1 hc => .sl n o l sz A A' len cap cap' (hs.row _ _ _ h) hl h0 h1 hc
 | _, _, .vs s xs v h => .vs s xs v (Sh.K_keep hs.keeps h)
 | _, _, .fn F a b a' b' h1 h2 => .fn F a b a' b' (LR.keep hs h1) (LR.keep hs h2)
 | _, _, .agg ds cs h => .agg ds cs (CR.keep hs h)
 | _, _, .tup ds vs h => .tup ds vs (LR.keep hs h)
 | _, _, .tab ks vs us b es cl hR hb hE h => .tab ks vs us b es cl (hs.keeps.sub _ hR) ((hs.keeps.same _ hR).trans hb) hE (fun n d hp => VR.keep hs (h n d hp))
 | _, _, .mh n b h => .mh n b (hs.obj _ _ h)
theorem CR.keep (hs : Same I I' w w') : ∀ {d : List DV} {v : List Value}, CR I w d v → CR I' w' d v
 | _, _, .nil => .nil
 | _, _, .one d r u cs h hu hr => .one d r u cs (VR.keep hs h) hu (CR.keep hs hr)
 | _, _, .arr s n xs r c cs h h1 hr => .arr s n xs r c cs (Sh.K_keep hs.keeps h) h1 (CR.keep hs hr)
theorem LR.keep (hs : Same I I' w w') : ∀ {d : List DV} {v : List Value}, LR I w d v → LR I' w' d v
 | _, _, .nil => .nil
 | _, _, .cons d r u vs h hr => .cons d r u vs (VR.keep hs h) (LR.keep hs hr)
end
structure ObjS (I I' : In) (w w' : World) : Prop where
 keeps : Keeps I.R I'.R w w'
 obj : ∀ n b, I.ι n = some (.obj b) → I'.ι n = some (.obj b)
mutual
theorem VR.bare (hs : ObjS I I' w w') : ∀ {d : DV} {v : Value}, VR I w d v → VR I' w' d.bare v
 | _, _, .undef v => .undef v
 | _, _, .sc v h => .sc v h
 | _, _, .ptr n o p b h hp => .ptr n o p b (hs.obj _ _ h) hp
 | _, _, .rp n sz i p b len cap h hi hp => .undef _
 | _, _, .pi its a cs h0 hR him h hc => .pi its a cs h0 (hs.keeps.sub _ hR) him (kQ hs.keeps h him) (fun j u hu => (ow (by rw [iz]; exact hs.keeps.same _ hR)).trans (hc j u hu))
 | _, _, .rw n sz v h h2 => .undef _
 | _, _, .sl n o l sz A A' len cap cap' h hl h0 h1 hc => .undef _
 | _, _, .vs s xs v h => .vs s xs v (Sh.K_keep hs.keeps h)
 | _, _, .fn F a b a' b' h1 h2 => .fn F _ _ a' b' (LR.bare hs h1) (LR.bare hs h2)
 | _, _, .agg ds cs h => .agg _ cs (CR.bare hs h)
 | _, _, .tup ds vs h => .tup _ vs (LR.bare hs h)
 | _, _, .tab ks vs us b es cl hR hb hE h => .tab ks _ us b es cl (hs.keeps.sub _ hR) ((hs.keeps.same _ hR).trans hb) (hE.map (rK ks vs)) (fun n d hp => by
   rw [rK] at hp
   obtain ⟨d0, h0, rfl⟩ := Option.map_eq_some_iff.1 hp
   exact VR.bare hs (h n d0 h0))
 | _, _, .mh n b h => .mh n b (hs.obj _ _ h)
theorem CR.bare (hs : ObjS I I' w w') : ∀ {d : List DV} {v : List Value}, CR I w d v → CR I' w' (iC d) v
 | _, _, .nil => .nil
 | _, _, .one d r u cs h hu hr => .one _ _ u cs (VR.bare hs h) hu (CR.bare hs hr)
 | _, _, .arr s n xs r c cs h h1 hr => .arr s n xs _ c cs (Sh.K_keep hs.keeps h) h1 (CR.bare hs hr)
theorem LR.bare (hs : ObjS I I' w w') : ∀ {d : List DV} {v : List Value}, LR I w d v → LR I' w' (iC d) v
 | _, _, .nil => .nil
 | _, _, .cons d r u vs h hr => .cons _ _ u vs (VR.bare hs h) (LR.bare hs hr)
end
structure But (n : Nat) (g : Sub) (I I' : In) (w w' : World) : Prop where
 keeps : Keeps I.R I'.R w w'
 obj : ∀ m b, I.ι m = some (.obj b) → I'.ι m = some (.obj b)
 row : ∀ m sz v, m ≠ n → I.ι m = some (.row sz v) → I'.ι m = some (.row sz v)
 sub : ∀ s xs, g = .vs s xs → ∀ sz v, I.ι n = some (.row sz v) → sz = s.sz ∧ (Sh.sl s).K I'.R w' xs [v]
theorem Ke {R : Nat → Prop} {s : Sh} {xs : List s.T} {A A' : Option Addr} {len cap cap' o l : Nat} (h : (Sh.sl s).K R w xs [.slice A len cap]) (hl : o + l ≤ len) (h1 : 0 < l → ∃ b, A = some ⟨b, 0, none⟩ ∧ A' = some ⟨b, o * s.sz, none⟩) (hc : l ≤ cap') : (Sh.sl s).K R w ((xs.drop o).take l) [.slice A' l cap'] := by
 obtain ⟨A0, cap0, e, h2, h3⟩ := h
 simp only [bX, Value.slice.injEq, bC] at e
 obtain ⟨rfl, rfl, rfl⟩ := e
 have hlen : ((xs.drop o).take l).length = l := by simp; omega
 refine ⟨A', cap', by rw [hlen], by omega, fun hn => ?_⟩
 have hlp : 0 < l := by
  rcases bV l with h0 | h0
  ·exact absurd (bj (by omega)) hn
  ·exact h0
 obtain ⟨b, rfl, rfl⟩ := h1 hlp
 have hx : xs ≠ [] := by
  intro e
  rw [e] at hl
  simp at hl
  omega
 obtain ⟨a, e1, e2, e3, e4⟩ := h3 hx
 simp only [aa] at e1
 subst e1
 refine ⟨_, rfl, rfl, e3, fun i x hx => ?_⟩
 have hx2 : xs[o + i]? = some x := by
  rw [aY] at hx
  split at hx
  ·rw [ba] at hx
   exact hx
  ·cases hx
 obtain ⟨c, g1, g2, g3⟩ := e4 _ x hx2
 refine ⟨c, g1, g2, fun j u hu => ?_⟩
 have := g3 j u hu
 rw [Addr.add_mid] at this ⊢
 rw [← this]
 congr 2
 rw [bx]
 omega
mutual
theorem VR.sub {n : Nat} {g : Sub} (hs : But n g I I' w w') : ∀ {d : DV} {v : Value}, VR I w d v → VR I' w' (d.sub n g) v
 | _, _, .undef v => .undef v
 | _, _, .sc v h => .sc v h
 | _, _, .ptr m o p b h hp => .ptr m o p b (hs.obj _ _ h) hp
 | _, _, .rp m sz i p b len cap h hi hp => by
  simp only [DV.sub]
  split
  ·exact .undef _
  ·rename_i hm
   exact .rp m sz i p b len cap (hs.row _ _ _ hm h) hi hp
 | _, _, .pi its a cs h0 hR him h hc => .pi its a cs h0 (hs.keeps.sub _ hR) him (kQ hs.keeps h him) (fun j u hu => (ow (by rw [iz]; exact hs.keeps.same _ hR)).trans (hc j u hu))
 | _, _, .rw m sz v h h2 => by
  simp only [DV.sub]
  split
  ·rename_i hm
   subst hm
   cases g with
   | none => exact .undef _
   | vs s xs => exact .vs s xs v (hs.sub s xs rfl _ _ h).2
  ·rename_i hm
   exact .rw m sz v (hs.row _ _ _ hm h) h2
 | _, _, .sl m o l sz A A' len cap cap' h hl h0 h1 hc => by
  simp only [DV.sub]
  split
  ·rename_i hm
   subst hm
   cases g with
   | none => exact .undef _
   | vs s xs =>
    obtain ⟨rfl, hk⟩ := hs.sub s xs rfl _ _ h
    exact .vs s _ _ (Ke hk hl h1 hc)
  ·rename_i hm
   exact .sl m o l sz A A' len cap cap' (hs.row _ _ _ hm h) hl h0 h1 hc
 | _, _, .vs s xs v h => .vs s xs v (Sh.K_keep hs.keeps h)
 | _, _, .fn F a b a' b' h1 h2 => .fn F _ _ a' b' (LR.sub hs h1) (LR.sub hs h2)
 | _, _, .agg ds cs h => .agg _ cs (CR.sub hs h)
 | _, _, .tup ds vs h => .tup _ vs (LR.sub hs h)
 | _, _, .tab ks vs us b es cl hR hb hE h => .tab ks _ us b es cl (hs.keeps.sub _ hR) ((hs.keeps.same _ hR).trans hb) (hE.map (kg ks vs)) (fun m d hp => by
   rw [kg] at hp
   obtain ⟨d0, h0, rfl⟩ := Option.map_eq_some_iff.1 hp
   exact VR.sub hs (h m d0 h0))
 | _, _, .mh m b h => .mh m b (hs.obj _ _ h)
theorem CR.sub {n : Nat} {g : Sub} (hs : But n g I I' w w') : ∀ {d : List DV} {v : List Value}, CR I w d v → CR I' w' (d6 n g d) v
 | _, _, .nil => .nil
 | _, _, .one d r u cs h hu hr => .one _ _ u cs (VR.sub hs h) hu (CR.sub hs hr)
 | _, _, .arr s m xs r c cs h h1 hr => .arr s m xs _ c cs (Sh.K_keep hs.keeps h) h1 (CR.sub hs hr)
theorem LR.sub {n : Nat} {g : Sub} (hs : But n g I I' w w') : ∀ {d : List DV} {v : List Value}, LR I w d v → LR I' w' (d6 n g d) v
 | _, _, .nil => .nil
 | _, _, .cons d r u vs h hr => .cons _ _ u vs (VR.sub hs h) (LR.sub hs hr)
end
end
def MR (I : In) (w : World) (n : Nat) (ks : List (List Int)) (vs : List DV) : Prop := ∃ b es clock val, I.ι n = some (.obj b) ∧ w.heap[b]? = some (.map es clock) ∧ TabE ks vs val es.toList ∧ ∀ m d, d9 ks vs m = some d → VR I w d (val m)
theorem MR.keep {I I' : In} {w w' : World} {n : Nat} {ks : List (List Int)} {vs : List DV} (hs : Same I I' w w') (h : MR I w n ks vs) (hb : ∀ b, I.ι n = some (.obj b) → w'.heap[b]? = w.heap[b]?) : MR I' w' n ks vs := by
 obtain ⟨b, es, cl, val, h1, h2, h3, h4⟩ := h
 exact ⟨b, es, cl, val, hs.obj _ _ h1, (hb b h1).trans h2, h3, fun m d hd => VR.keep hs (h4 m d hd)⟩
theorem MR.sub {I I' : In} {w w' : World} {n m : Nat} {g : Sub} {ks : List (List Int)} {vs : List DV} (hs : But m g I I' w w') (h : MR I w n ks vs) (hb : ∀ b, I.ι n = some (.obj b) → w'.heap[b]? = w.heap[b]?) : MR I' w' n ks (d6 m g vs) := by
 obtain ⟨b, es, cl, val, h1, h2, h3, h4⟩ := h
 refine ⟨b, es, cl, val, hs.obj _ _ h1, (hb b h1).trans h2, h3.map (kg ks vs), fun j d hd => ?_⟩
 rw [kg] at hd
 obtain ⟨d0, h0, rfl⟩ := Option.map_eq_some_iff.1 hd
 exact VR.sub hs (h4 j d0 h0)
structure HR (I : In) (w : World) (H : Heap) : Prop where
 obj : ∀ n cs, H n = some (.obj cs) → ∃ b c t, I.ι n = some (.obj b) ∧ w.heap[b]? = some (.cells c t (0, 0)) ∧ CR I w cs c.toList
 row : ∀ n E s xs, H n = some (.row E s xs) → ∃ v cs, I.ι n = some (.row s.sz v) ∧ w.ownsRow 0 E s.sz v xs.length cs ∧ (Sh.arr xs.length s).K I.R w xs cs
 mp : ∀ n ks vs, H n = some (.mp ks vs) → MR I w n ks vs
 dom : ∀ n, H n = none → I.ι n = none
 lt : ∀ n e b, I.ι n = some e → e.blk = some b → b < w.heap.size ∧ ¬ I.R b
 inj : ∀ n m e e' b, I.ι n = some e → I.ι m = some e' → e.blk = some b → e'.blk = some b → n = m
 rlt : ∀ b, I.R b → b < w.heap.size
structure Ext (I : In) (w : World) (I' : In) (w' : World) : Prop where
 obj : ∀ n b, I.ι n = some (.obj b) → I'.ι n = some (.obj b)
 ro : ∀ b, I.R b → I'.R b
 same : ∀ b, b < w.heap.size → (∀ n e, I.ι n = some e → e.blk ≠ some b) → w'.heap[b]? = w.heap[b]?
 own : ∀ n e b, I'.ι n = some e → e.blk = some b → (∃ m e', I.ι m = some e' ∧ e'.blk = some b) ∨ w.heap.size ≤ b
 newR : ∀ b, I'.R b → I.R b ∨ (∃ m e', I.ι m = some e' ∧ e'.blk = some b) ∨ w.heap.size ≤ b
 size : w.heap.size ≤ w'.heap.size
 os : w'.os = w.os
 tape : w'.tape = w.tape
 output : w'.output = w.output
theorem Ext.refl (I : In) (w : World) : Ext I w I w := ⟨fun _ _ h => h, fun _ h => h, fun _ _ _ => rfl, fun n e b h hb => .inl ⟨n, e, h, hb⟩, fun _ h => .inl h, ak _, rfl, rfl, rfl⟩
theorem Ext.trans {I I1 I2 : In} {w w1 w2 : World} (h : Ext I w I1 w1) (k : Ext I1 w1 I2 w2) : Ext I w I2 w2 := by
 refine ⟨fun n b hb => k.obj n b (h.obj n b hb), fun b hb => k.ro b (h.ro b hb), fun b hb hn => ?_, fun n e b he hb => ?_, fun b hb => ?_, aX h.size k.size, k.os.trans h.os, k.tape.trans h.tape, k.output.trans h.output⟩
 ·rw [k.same b (bk hb h.size) (fun n e he heb => ?_), h.same b hb hn]
  rcases h.own n e b he heb with ⟨m, e', h1, h2⟩ | h1
  ·exact hn m e' h1 h2
  ·omega
 ·rcases k.own n e b he hb with ⟨m, e', h1, h2⟩ | h1
  ·exact h.own m e' b h1 h2
  ·exact .inr (aX h.size h1)
 ·rcases k.newR b hb with h1 | ⟨m, e', h1, h2⟩ | h1
  ·exact h.newR b h1
  ·exact .inr (h.own m e' b h1 h2)
  ·exact .inr (.inr (aX h.size h1))
theorem Ext.keeps {I I' : In} {w w' : World} {H : Heap} (h : Ext I w I' w') (hH : HR I w H) : Keeps I.R I'.R w w' :=
 ⟨h.ro, fun b hb => h.same b (hH.rlt b hb) (fun n e he heb => (hH.lt n e b he heb).2 hb)⟩
theorem Ext.toObj {I I' : In} {w w' : World} {H : Heap} (h : Ext I w I' w') (hH : HR I w H) : ObjS I I' w w' := ⟨h.keeps hH, h.obj⟩
structure TR (I : In) (w : World) (T : List DV) (a : Act) : Prop where
  len : T.length ≤ a.tmps.size
  val : ∀ i, VR I w (T.getD i .undef) (a.tmps.getD i undef)
  df : a.defers = []
section
variable {P : Program} {I : In} {w : World} {T : List DV} {a : Act} {H : Heap}
theorem E2 {v : Value} (h : v.oneCell' = true) : v.cells = #[v] := by cases v <;> first | rfl | cases h
theorem wJ (v : Value) : VR I w (yI v) v := by
  have hC : ∀ cs : List Value, (cs.all (·.oneCell')) = true → CR I w (cs.map .sc) cs := by
    intro cs
    induction cs with
    | nil => intro _; exact .nil
    | cons c r ih =>
      intro h
      simp only [bY, ai] at h
      exact .one _ _ _ _ (.sc _ h.1) h.1 (ih h.2)
  have hL : ∀ cs : List Value, (cs.all (·.oneCell')) = true → LR I w (cs.map .sc) cs := by
    intro cs
    induction cs with
    | nil => intro _; exact .nil
    | cons c r ih =>
      intro h
      simp only [bY, ai] at h
      exact .cons _ _ _ _ (.sc _ h.1) (ih h.2)
  cases v <;> first
    | exact .sc _ rfl
    | (simp only [yI]; split
       · rename_i h; first | exact .agg _ _ (hC _ h) | exact .tup _ _ (hL _ h)
       · exact .undef _)
theorem dm (hT : TR I w T a) (x : Operand) : VR I w (dh T x) (a.eval x) := by
  cases x with
  | tmp t => exact hT.val t
  | const v => exact wJ v
  | global g => exact .undef _
  | func f => exact .fn _ _ _ _ _ .nil .nil
theorem TR.put (hT : TR I w T a) (d : Option Tmp) {v : DV} {u : Value} (h : VR I w v u) : TR I w (dv T d v) (a.put d u) := by
  cases d with
  | none => exact hT
  | some d =>
    refine ⟨by simp [dv, Act.put, hT.len], fun i => ?_, hT.df⟩
    simp only [dv, Act.put, av, bB, bP, Array.getElem?_setIfInBounds]
    by_cases e : d = i
    · subst e
      by_cases hl : d < T.length
      · have hl2 : d < a.tmps.size := bk hl hT.len
        simp [hl, hl2, h]
      · simp only [hl, if_true, au, Option.getD_none]
        exact .undef _
    · simp only [e, au]
      have := hT.val i
      simpa [av, bP] using this
structure Rows (I I' : In) : Prop where
  row : ∀ n sz v, I.ι n = some (.row sz v) → I'.ι n = some (.row sz v)
def NR (I : In) (w : World) (v : DV) : Next → Prop
  | .value u => VR I w v u
  | .skip => v = .undef
  | _ => False
def Done (P : Program) (o : Oper) (a : Act) (I : In) (w : World) (H : Heap) (v : DV) (act : fD) : Prop :=
  ∃ I' w' n, (execOp a.eval o).run P w = .ok n w' ∧ Ext I w I' w' ∧ Rows I I' ∧ HR I' w' (H.act act) ∧ NR I' w' v n
theorem Done.pure {o : Oper} {v : DV} {u : Value} (hH : HR I w H) (hr : (execOp a.eval o).run P w = .ok (.value u) w) (h : VR I w v u) : Done P o a I w H v none :=
  ⟨I, w, _, hr, Ext.refl I w, ⟨fun _ _ _ h => h⟩, hH, h⟩
theorem jW {s : Sem Value} {u : Value} {w' : World} (h : s.run P w = .ok u w') : ((do pure (Next.value (← s)) : Sem Next)).run P w = .ok (.value u) w' := by simp [Sem.run_bind, h]
theorem yL {o : Oper} {x : Operand} (ho : o.op = .move x) : (execOp a.eval o).run P w = .ok (.value (a.eval x)) w := by unfold execOp; rw [ho]; rfl
theorem uG {o : Oper} {x : Operand} (ho : o.op = .assign x) : (execOp a.eval o).run P w = .ok (.value (a.eval x)) w := by unfold execOp; rw [ho]; rfl
theorem qj {t : TypeId} (h : fM P t = true) : ∃ d, P.underlying t = some d ∧ d.isRow = true := by
  unfold fM at h
  split at h
  · rename_i fs hu; exact ⟨_, hu, rfl⟩
  · rename_i m e hu; exact ⟨_, hu, rfl⟩
  · cases h
theorem CJ {t : TypeId} {d : TypeDesc} (h : P.underlying t = some d) : ∃ i, P.info? t = some i := by
  unfold Program.underlying at h
  cases hi : P.info? t with
  | none => rw [hi] at h; cases h
  | some i => exact ⟨i, rfl⟩
theorem rL {t : TypeId} {d : TypeDesc} (h : P.underlying t = some d) (w : World) : (isAgg t).run P w = .ok d.isRow w := by
  unfold isAgg
  rw [Sem.run_bind, run_underlying h w]
  cases d <;> rfl
theorem fQ {t : TypeId} {d : TypeDesc} (h : P.underlying t = some d) : fM P t = d.isRow := by
  unfold fM
  rw [h]
  cases d <;> rfl
theorem oU {t : TypeId} {d : TypeDesc} (h : P.underlying t = some d) (w : World) : (sizeOf t).run P w = .ok (dE P t) w := by
  obtain ⟨i, hi⟩ := CJ h
  simp [sizeOf, typeInfo, hi, dE]
theorem nS {t : TypeId} {ad : Addr} {cs : List Value} {its : List DV} {v : DV} (hl : cs.length = dE P t) (hc : ∀ j u, cs[j]? = some u → w.cell? (ad.add j) = some u) (hv : mO P t its = some v) (hC : CR I w its cs) :
    ∃ u, (loadVar t ad).run P w = .ok u w ∧ VR I w v u := by
  rcases CI hv hC with ⟨h1, h2⟩ | ⟨h1, h2, u, rfl, h3, h4⟩
  · obtain ⟨d, hd, hr⟩ := qj h1
    refine ⟨_, ?_, h2⟩
    have hl2 := run_loadCells_list (P := P) w ad cs hc
    simp [loadVar, Sem.run_bind, rL hd, hr, oU hd, ← hl, hl2]
  · obtain ⟨d, hd⟩ := Option.isSome_iff_exists.1 h2
    refine ⟨u, ?_, h3⟩
    have hr : d.isRow = false := by rw [← fQ hd]; exact h1
    have h0 := hc 0 u rfl
    rw [show ad.add 0 = ad from rfl] at h0
    simp [loadVar, Sem.run_bind, rL hd, hr, h0]
theorem AM {b j : Nat} {c : Array Value} {t : TypeId} {fr : Nat × Nat} (h : w.heap[b]? = some (.cells c t fr)) : w.cell? ⟨b, j, none⟩ = c.toList[j]? := by
  simp [World.cell?, h]
theorem yM {o : Oper} {t : TypeId} {x : Operand} {u : Value} {ad : Addr} (ho : o.op = .load t x) (hx : a.eval x = .pointer (some ad)) (h : (loadVar t ad).run P w = .ok u w) : (execOp a.eval o).run P w = .ok (.value u) w := by
  unfold execOp
  rw [ho]
  refine jW ?_
  rw [hx]
  simp [Instr.loadAt, Instr.sureAddr, Sem.run_bind, h]
theorem mq {n : Nat} {E : TypeId} {s : Sh} {xs : List s.T} (hH : HR I w H) (h : H n = some (.row E s xs)) {sz b len cap : Nat} (hi : I.ι n = some (.row sz (.slice (some ⟨b, 0, none⟩) len cap))) :
    sz = s.sz ∧ len = xs.length ∧ ∃ cs, (Sh.arr xs.length s).K I.R w xs cs ∧ w.ownsRow 0 E s.sz (.slice (some ⟨b, 0, none⟩) len cap) xs.length cs ∧ ∀ j u, cs[j]? = some u → w.cell? ⟨b, j, none⟩ = some u := by
  obtain ⟨v, cs, h1, h2, h3⟩ := hH.row n E s xs h
  rw [hi] at h1
  simp only [aa, Ent.row.injEq] at h1
  obtain ⟨rfl, rfl⟩ := h1
  have hlen : len = xs.length := by
    rcases h2.2 with ⟨e, _⟩ | ⟨g, c, cur, e, _⟩
    · cases e
    · simp only [Value.slice.injEq] at e
      exact e.2.1
  subst hlen
  refine ⟨rfl, rfl, cs, h3, h2, fun j u hu => ?_⟩
  have hj : j < xs.length * s.sz := by
    have := (List.getElem?_eq_some_iff.1 hu).1
    rw [h2.1] at this
    exact this
  rw [h2.cellAt j hj]
  exact hu
theorem yc {t : TypeId} {d v : DV} {x' : Value} (hx : VR I w d x') (hH : HR I w H) (h : jT P t H d = some v) : ∃ ad u, x' = .pointer (some ad) ∧ (loadVar t ad).run P w = .ok u w ∧ VR I w v u := by
  cases hx with
  | ptr n off p b hb hp =>
    simp only [jT] at h
    split at h
    · rename_i cs hcs
      split at h
      · rename_i its hits
        split at h
        · rename_i its' hits'
          obtain ⟨b', c, t', e1, e2, e3⟩ := hH.obj n cs hcs
          rw [hb] at e1
          simp only [aa, Ent.obj.injEq] at e1
          subst e1
          obtain ⟨c1, k1, k2⟩ := wI hits (show ox (.off off :: p) from hp) e3
          obtain ⟨d1, d2, rfl, hl, k3⟩ := lJ hits' k1
          obtain ⟨u, g1, g2⟩ := nS (ad := ⟨b, off + dT p, none⟩) hl (fun j u hu => by
            rw [Addr.add_mid, AM e2]
            have := k2 j u (by rw [bc (List.getElem?_eq_some_iff.1 hu).1]; exact hu)
            simp only [dT] at this
            exact this) h k3
          exact ⟨_, u, rfl, g1, g2⟩
        · cases h
      · cases h
    · cases h
  | rp n sz i p b len cap hb hi hp =>
    simp only [jT] at h
    split at h
    · rename_i E s xs hrow
      split at h
      · rename_i hz
        split at h
        · rename_i its hits
          split at h
          · rename_i its' hits'
            obtain ⟨e1, e2, cs, e3, e4, e5⟩ := mq hH hrow hb
            subst e2
            have hx2 := e3.2.2 i _ (getD_some xs i s.dflt hi)
            obtain ⟨c1, k1, k2⟩ := wI hits hp (Sh.enc_ok (I := I) hx2)
            obtain ⟨d1, d2, rfl, hl, k3⟩ := lJ hits' k1
            obtain ⟨u, g1, g2⟩ := nS (ad := ⟨b, i * sz + dT p, none⟩) hl (fun j u hu => by
              rw [Addr.add_mid]
              have h3 := k2 j u (by rw [bc (List.getElem?_eq_some_iff.1 hu).1]; exact hu)
              rw [aY] at h3
              split at h3
              · rw [ba] at h3
                refine e5 _ u ?_
                rw [← h3, e1]
                congr 1
                omega
              · cases h3) h k3
            exact ⟨_, u, rfl, g1, g2⟩
          · cases h
        · cases h
      · cases h
    · cases h
  | pi its ad cs h0 hR him hC hc =>
    simp only [jT] at h
    split at h
    · rename_i its' hits'
      obtain ⟨d1, d2, rfl, hl, k3⟩ := lJ hits' hC
      obtain ⟨u, g1, g2⟩ := nS (ad := ad) hl (fun j u hu => hc j u (by rw [bc (List.getElem?_eq_some_iff.1 hu).1]; exact hu)) h k3
      exact ⟨_, u, rfl, g1, g2⟩
    · cases h
  | _ => simp [jT] at h
theorem JC {o : Oper} {t : TypeId} {x : Operand} {v : DV} (ho : o.op = .load t x) (hT : TR I w T a) (hH : HR I w H) (h : jT P t H (dh T x) = some v) : Done P o a I w H v none := by
  obtain ⟨ad, u, h1, h2, h3⟩ := yc (dm hT x) hH h
  exact Done.pure hH (yM ho h1 h2) h3
end
section
variable {P : Program} {I : In} {w : World} {T : List DV} {a : Act} {H : Heap} {α : Type}
theorem VR.sc_eq {v u : Value} (h : VR I w (.sc v) u) : u = v := by cases h; rfl
def i1 (P : Program) (I : In) (w : World) (s : Sem Value) (v : DV) : Prop := ∃ u, s.run P w = .ok u w ∧ VR I w v u
theorem AN {c x y : DV} {c' x' y' : Value} {k : DV → Option α} {r : α} (hc : VR I w c c') (hx : VR I w x x') (hy : VR I w y y') (h : oo c x y k = some r) :
  ∃ v, k v = some r ∧ i1 P I w (do pure (if ← asBool c' then x' else y')) v := by
 cases hc with
 | sc _ hv =>
  cases c' with
  | bool t =>
   have gen : ∀ h' : (if t = true then k x else k y) = some r, ∃ v, k v = some r ∧ i1 P I w (do pure (if ← asBool (.bool t) then x' else y')) v := by
    intro h'
    cases t
    ·exact ⟨y, by simpa using h', y', by simp [asBool], hy⟩
    ·exact ⟨x, by simpa using h', x', by simp [asBool], hx⟩
   simp only [oo] at h
   split at h
   ·cases hx with | sc _ _ => cases hy with | sc _ _ =>
     exact ⟨_, h, _, rfl, by cases t <;> exact .sc _ rfl⟩
   ·split at h
    ·rename_i hk
     subst hk
     cases hx with | sc _ _ => cases hy with | sc _ _ =>
      exact ⟨_, h, _, rfl, by cases t <;> exact .sc _ rfl⟩
    ·cases h
   ·exact gen h
  | _ => simp [oo] at h
 | _ => simp [oo] at h
theorem uH (t : TypeId) : dE P t = P.cellsOf t := by
 unfold dE Program.cellsOf
 cases P.info? t <;> rfl
def mY (P : Program) (t : TypeId) (cs : List Value) : Value := if fM P t then .agg cs.toArray else cs.headD undef
theorem kv {t : TypeId} {d : TypeDesc} {cs : List Value} {o : Nat} (hu : P.underlying t = some d) (hl : o + dE P t ≤ cs.length) (h1 : fM P t = false → dE P t = 1) :
  (part t cs.toArray o).run P w = .ok (mY P t ((cs.drop o).take (dE P t))) w := by
 unfold part mY
 rw [Sem.run_bind, rL hu, Result.andThen_ok, fQ hu]
 cases hr : d.isRow with
 | true =>
  simp only [if_true, Sem.run_bind, oU hu, Result.andThen_ok, Sem.run_pure]
  congr 2
  apply Array.ext'
  simp [List.extract_eq_take_drop]
 | false =>
  have h2 := h1 (by rw [fQ hu, hr])
  have h3 : o < cs.length := by omega
  have h4 : cs[o]? = some cs[o] := aF h3
  simp only [aD, au, List.getElem?_toArray, h4, Sem.run_pure]
  congr 1
  rw [h2, List.headD_eq_head?_getD, List.head?_take, if_neg (by omega), List.head?_drop, h4]
  rfl
theorem oy : ∀ {d : Nat} {t : TypeId} {s : Sh}, oT P d t s = true → dE P t = s.sz ∧ 0 < s.sz ∧ ∃ D, P.underlying t = some D ∧ (D.isRow = false → s.sz = 1)
 | 0, _, _, h => by cases h
 | d + 1, t, s, h => by
  simp only [oT, ai, ae, aj] at h
  obtain ⟨⟨h1, h0⟩, h2⟩ := h
  refine ⟨h1, h0, ?_⟩
  split at h2 <;> first
   | (rename_i hu; exact ⟨_, hu, fun _ => rfl⟩)
   | (rename_i hu; exact ⟨_, hu, fun h => by cases h⟩)
   | cases h2
theorem E3 {R : Nat → Prop} {d m : Nat} (ih : ∀ {t : TypeId} {s : Sh} {x y : s.T} {cs ds : List Value}, oT P d t s = true → s.K R w x cs → s.K R w y ds → (Op.equalIn m t (mY P t cs) (mY P t ds)).run P w = .ok (s.eqT x y) w) :
  ∀ {fs : List Field} {o : Nat} {s : Sh} {x y : s.T} {cs ds : List Value}, vc (oT P d) P o fs s = true → s.K R w x (cs.drop o) → s.K R w y (ds.drop o) →
  (Op.eqFields m cs.toArray ds.toArray fs).run P w = .ok (s.eqT x y) w
 | [], _, _, _, _, _, _, h, _, _ => by simp [vc] at h
 | [g], o, s, x, y, cs, ds, h, hx, hy => by
  have h' : g.name ≠ "_" ∧ g.offset = o ∧ oT P d g.type s = true := by
   cases s <;> simpa [vc, and_assoc] using h
  obtain ⟨h1, h2, h3⟩ := h'
  obtain ⟨z1, z0, D, z2, z3⟩ := oy h3
  have l1 := Sh.K_len hx
  have l2 := Sh.K_len hy
  have hm : fM P g.type = false → dE P g.type = 1 := fun hh => by rw [z1]; exact z3 (by rw [← fQ z2]; exact hh)
  simp only [bZ] at l1 l2
  simp only [Op.eqFields, ne_eq, h1, not_false_eq_true, if_true, Sem.run_bind]
  rw [h2, kv (cs := cs) z2 (by omega) hm, Result.andThen_ok, kv (cs := ds) z2 (by omega) hm, Result.andThen_ok]
  have e1 : (cs.drop o).take (dE P g.type) = cs.drop o := aW (by rw [bZ]; omega)
  have e2 : (ds.drop o).take (dE P g.type) = ds.drop o := aW (by rw [bZ]; omega)
  rw [e1, e2, ih h3 hx hy, Result.andThen_ok]
  cases s.eqT x y <;> simp [Op.eqFields]
 | g :: g2 :: r, o, s, x, y, cs, ds, h, hx, hy => by
  cases s with
  | pair p q =>
   simp only [vc, ai, aw, ne_eq, ae] at h
   obtain ⟨⟨⟨h1, h2⟩, h3⟩, h4⟩ := h
   obtain ⟨z1, z0, D, z2, z3⟩ := oy h3
   obtain ⟨c1, c2, e1, k1, k2⟩ := hx
   obtain ⟨d1, d2, e2, m1, m2⟩ := hy
   have lc := Sh.K_len k1
   have ld := Sh.K_len m1
   have hm : fM P g.type = false → dE P g.type = 1 := fun hh => by rw [z1]; exact z3 (by rw [← fQ z2]; exact hh)
   have n1 : cs.length - o = c1.length + c2.length := by rw [← bZ, e1, aT]
   have n2 : ds.length - o = d1.length + d2.length := by rw [← bZ, e2, aT]
   have t1 : (cs.drop o).take (dE P g.type) = c1 := by rw [e1, z1, ← lc]; simp
   have t2 : (ds.drop o).take (dE P g.type) = d1 := by rw [e2, z1, ← ld]; simp
   have u1 : cs.drop (o + p.sz) = c2 := by rw [← bG, e1, ← lc]; simp
   have u2 : ds.drop (o + p.sz) = d2 := by rw [← bG, e2, ← ld]; simp
   have ih2 := E3 ih (fs := g2 :: r) (o := o + p.sz) (cs := cs) (ds := ds) h4 (by rw [u1]; exact k2) (by rw [u2]; exact m2)
   rw [Op.eqFields]
   simp only [ne_eq, h1, not_false_eq_true, if_true, Sem.run_bind]
   rw [h2, kv (cs := cs) z2 (by omega) hm, Result.andThen_ok, kv (cs := ds) z2 (by omega) hm, Result.andThen_ok, t1, t2, ih h3 k1 m1, Result.andThen_ok]
   simp only [Sh.eqT]
   cases p.eqT x.1 y.1
   ·simp
   ·simpa using ih2
  | _ => simp [vc] at h
theorem E4 {R : Nat → Prop} {m : Nat} {e : TypeId} {s : Sh} {n : Nat} {xs ys : List s.T} {cs ds : List Value} (hx : (Sh.arr n s).K R w xs cs) (hy : (Sh.arr n s).K R w ys ds) (z1 : dE P e = s.sz) {D : TypeDesc} (z2 : P.underlying e = some D) (hm : fM P e = false → dE P e = 1)
  (ih : ∀ {x y : s.T} {cs ds : List Value}, s.K R w x cs → s.K R w y ds → (Op.equalIn m e (mY P e cs) (mY P e ds)).run P w = .ok (s.eqT x y) w) :
  ∀ is : List Nat, (∀ i ∈ is, i < n) → (Op.eqItems m e (P.cellsOf e) cs.toArray ds.toArray is).run P w = .ok (is.all fun i => s.eqT (xs.getD i s.dflt) (ys.getD i s.dflt)) w
 | [], _ => by simp [Op.eqItems]
 | i :: is, hi => by
  have h1 := hi i (aM ..)
  have ih2 := E4 hx hy z1 z2 hm ih is (fun j hj => hi j (aB _ hj))
  have hle : i * s.sz + s.sz ≤ n * s.sz := by rw [← aQ]; exact aU _ h1
  have g1 := hx.2.2 i _ (getD_some xs i s.dflt (by rw [hx.1]; exact h1))
  have g2 := hy.2.2 i _ (getD_some ys i s.dflt (by rw [hy.1]; exact h1))
  have l1 := hx.2.1
  have l2 := hy.2.1
  rw [Op.eqItems]
  simp only [Sem.run_bind]
  rw [← uH, z1, kv (cs := cs) z2 (by omega) hm, Result.andThen_ok, kv (cs := ds) z2 (by omega) hm, Result.andThen_ok, z1, ih g1 g2, Result.andThen_ok]
  simp only [bY]
  cases s.eqT (xs.getD i s.dflt) (ys.getD i s.dflt)
  ·simp
  ·rw [← uH, z1] at ih2
   simpa using ih2
theorem AO {R : Nat → Prop} : ∀ {d m : Nat} {t : TypeId} {s : Sh} {x y : s.T} {cs ds : List Value}, d ≤ m → oT P d t s = true → s.K R w x cs → s.K R w y ds → (Op.equalIn m t (mY P t cs) (mY P t ds)).run P w = .ok (s.eqT x y) w
 | 0, _, _, _, _, _, _, _, _, h, _, _ => by cases h
 | d + 1, 0, _, _, _, _, _, _, hm, _, _, _ => by omega
 | d + 1, m + 1, t, s, x, y, cs, ds, hm, h, hx, hy => by
  simp only [oT, ai, ae, aj] at h
  obtain ⟨⟨h1, h0⟩, h2⟩ := h
  split at h2
  ·rename_i k k' hu
   simp only [ae] at h2
   subst h2
   cases hx
   cases hy
   have : fM P t = false := by rw [fQ hu]
   simp only [mY, this, aD, au, List.headD_cons]
   exact run_equalIn_int w m t _ _ _ _ hu
  ·rename_i hu
   cases hx
   cases hy
   have : fM P t = false := by rw [fQ hu]
   simp only [mY, this, aD, au, List.headD_cons]
   exact run_equalIn_bool' w m t _ _ hu
  ·rename_i hu
   cases hx
   cases hy
   have : fM P t = false := by rw [fQ hu]
   simp only [mY, this, aD, au, List.headD_cons]
   exact run_equalIn_string w m t _ _ hu
  ·rename_i fs hu
   simp only [ai, b9] at h2
   have : fM P t = true := by rw [fQ hu]
   have hf : P.fieldsOf t = fs := by simp [Program.fieldsOf, hu]
   simp only [mY, this, if_true]
   rw [run_equalIn_struct w m t _ _ (by rw [hf]; exact hu) h2.1, hf]
   exact E3 (fun hc k1 k2 => AO (by omega) hc k1 k2) h2.2 (by simpa using hx) (by simpa using hy)
  ·rename_i n e n' s' hu
   simp only [ai, ae] at h2
   obtain ⟨rfl, h3⟩ := h2
   have : fM P t = true := by rw [fQ hu]
   obtain ⟨z1, z0, D, z2, z3⟩ := oy h3
   obtain ⟨i, hi⟩ := CJ z2
   simp only [mY, this, if_true]
   rw [run_equalIn_array w m _ _ hu hi]
   exact E4 hx hy z1 z2 (fun hh => by rw [z1]; exact z3 (by rw [← fQ z2]; exact hh)) (fun k1 k2 => AO (by omega) h3 k1 k2) _ (fun i hi => bf.1 hi)
  ·cases h2
end
section
variable {P : Program} {I : In} {w : World} {T : List DV} {a : Act} {H : Heap} {α : Type}
theorem wK {s : Sem Value} {v : Value} : fi P s = some v → s.run P w = .ok v w := by
  induction s with
  | pure b => intro h; simp only [fi, aa] at h; subst h; rfl
  | program k ih => intro h; simp only [fi] at h; exact ih P h
  | _ => intro h; cases h
theorem AP {β : Type} {c : Prop} [Decidable c] {x y r : β} (hx : x = r) (hy : y = r) : (if c then x else y) = r := by split <;> assumption
theorem gJ {op : BinOp} {t : TypeId} {x y : Operand} {u v : Value} (h : ∀ cs ds, u = .agg cs → v = .agg ds → False) (h2 : u ≠ .nilIface) : (eqGuard op t x y u v).run P w = .ok () w := by
  unfold eqGuard
  rw [Sem.run_ite]
  refine AP rfl ?_
  split
  · exact (h2 rfl).elim
  · exact (h _ _ rfl rfl).elim
  · rfl
theorem uI {op : BinOp} {t : TypeId} {x y : Operand} {cs ds : Array Value} (h : P.eqGuardType P.depth t = false) : (eqGuard op t x y (.agg cs) (.agg ds)).run P w = .ok () w := by
  unfold eqGuard
  rw [Sem.run_ite]
  exact AP rfl (by simp [Sem.run_bind, h])
theorem JD {op : BinOp} {t : TypeId} {ka kb : IntKind} {x y : Int} {v : Value} (h : fi P (binOp op t (.int ka x) (.int kb y)) = some v) : v.oneCell' = true := by
  have hi : ∀ {c : Prop} [Decidable c] {s s' : Sem Value}, fi P (if c then s else s') = some v → (fi P s = some v ∨ fi P s' = some v) := by
    intro c _ s s' h
    split at h
    · exact .inl h
    · exact .inr h
  have hn : ∀ {x : String}, fi P (stuck x : Sem Value) = some v → v.oneCell' = true := fun h => by cases h
  cases op <;> simp only [binOp] at h <;> first
    | (rcases hi h with h | h
       · cases h
       · first
         | (simp only [Op.intArith, Op.intCmp, pure, fi, aa] at h; subst h; rfl)
         | (simp only [Op.intBits, pure, fi, aa] at h; subst h; rfl)
         | (simp only [Op.intDiv] at h
            rcases hi h with h | h
            · cases h
            · simp only [pure, fi, aa] at h; subst h; rfl))
    | (simp only [Op.shift] at h
       rcases hi h with h | h
       · cases h
       · simp only [pure, fi, aa] at h; subst h; rfl)
theorem JE {op : BinOp} {x y : ByteArray} {v : Value} (h : fi P (Op.stringOp op x y) = some v) : v.oneCell' = true := by
  cases op <;> simp only [Op.stringOp] at h <;> first
    | (simp only [pure, fi, aa] at h; subst h; rfl)
    | (split at h
       · cases h
       · simp only [pure, fi, aa] at h; subst h; rfl)
    | cases h
theorem E5 {t e : TypeId} (hu : P.underlying t = some (.pointer e)) (q : Addr) : (Op.equal t (.pointer (some q)) (.pointer none)).run P w = .ok false w := by
  unfold Op.equal Op.maxDepth
  rw [Op.equalIn, Sem.run_bind, run_underlying hu]
  rfl
theorem Kf {t e : TypeId} (hu : P.underlying t = some (.pointer e)) : (Op.equal t (.pointer none) (.pointer none)).run P w = .ok true w := by
  unfold Op.equal Op.maxDepth
  rw [Op.equalIn, Sem.run_bind, run_underlying hu]
  rfl
theorem yd {op : BinOp} {t : TypeId} {x y : Operand} {q : Option Addr} {c : Bool} {k : DV → Option α} {r : α}
    (h : (match op with
    | .eql => match P.underlying t with | some (.pointer _) => k (.sc (.bool c)) | _ => none
    | .neq => match P.underlying t with | some (.pointer _) => k (.sc (.bool !c)) | _ => none
    | _ => none) = some r) (p2 : Option Addr) (hg : (eqGuard op t x y (.pointer q) (.pointer p2)).run P w = .ok () w) (he : ∀ e, P.underlying t = some (.pointer e) → (Op.equal t (.pointer q) (.pointer p2)).run P w = .ok c w) :
    ∃ z, k z = some r ∧ i1 P I w (do eqGuard op t x y (.pointer q) (.pointer p2); binOp op t (.pointer q) (.pointer p2)) z := by
  split at h
  · split at h
    · rename_i e' hu
      refine ⟨_, h, _, ?_, .sc _ rfl⟩
      rw [Sem.run_bind, hg]
      show ((do pure (.bool (← Op.equal t (.pointer q) (.pointer p2))) : Sem Value)).run P w = _
      rw [Sem.run_bind, he _ hu]
      rfl
    · cases h
  · split at h
    · rename_i e' hu
      refine ⟨_, h, _, ?_, .sc _ rfl⟩
      rw [Sem.run_bind, hg]
      show ((do pure (.bool (!(← Op.equal t (.pointer q) (.pointer p2)))) : Sem Value)).run P w = _
      rw [Sem.run_bind, he _ hu]
      rfl
    · cases h
  · cases h
theorem CK {op : BinOp} {t : TypeId} {x y : Operand} {d e : DV} {u v : Value} {k : DV → Option α} {r : α} (hd : VR I w d u) (he : VR I w e v) (h : x0 P op t d e k = some r) :
    ∃ z, k z = some r ∧ i1 P I w (do eqGuard op t x y u v; binOp op t u v) z := by
  have guard : ∀ {s : Sem Value} {z : DV}, (eqGuard op t x y u v).run P w = .ok () w → i1 P I w s z → binOp op t u v = s → i1 P I w (do eqGuard op t x y u v; binOp op t u v) z := by
    rintro s z h1 ⟨q, h2, h3⟩ rfl
    exact ⟨q, by rw [Sem.run_bind, h1]; exact h2, h3⟩
  unfold x0 at h
  split at h
  · rename_i ka m kb n
    obtain rfl := hd.sc_eq
    obtain rfl := he.sc_eq
    have hg : (eqGuard op t x y (.int ka m) (.int kb n)).run P w = .ok () w := gJ (fun _ _ h _ => by cases h) (by simp)
    split at h
    · split at h
      · rename_i hk
        subst hk
        split at h
        · cases h
        · rename_i hn
          refine ⟨_, h, guard hg ⟨_, ?_, .sc _ rfl⟩ rfl⟩
          have : n ≠ 0 := by simpa using hn
          simp [binOp, Op.intDiv, this]
      · cases h
    · split at h
      · rename_i hk
        subst hk
        split at h
        · cases h
        · rename_i hn
          refine ⟨_, h, guard hg ⟨_, ?_, .sc _ rfl⟩ rfl⟩
          have : n ≠ 0 := by simpa using hn
          simp [binOp, Op.intDiv, this]
      · cases h
    · split at h
      · cases h
      · rename_i hn
        refine ⟨_, h, guard hg ⟨_, ?_, .sc _ rfl⟩ rfl⟩
        have : ¬ n < 0 := by simpa using hn
        simp [binOp, Op.shift, this]
    · split at h
      · cases h
      · rename_i hn
        refine ⟨_, h, guard hg ⟨_, ?_, .sc _ rfl⟩ rfl⟩
        have : ¬ n < 0 := by simpa using hn
        simp [binOp, Op.shift, this]
    · split at h
      · rename_i z hz
        exact ⟨_, h, guard hg ⟨_, wK hz, .sc _ (JD hz)⟩ rfl⟩
      · cases h
  · rename_i m n
    obtain rfl := hd.sc_eq
    obtain rfl := he.sc_eq
    have hg : (eqGuard op t x y (.string m) (.string n)).run P w = .ok () w := gJ (fun _ _ h _ => by cases h) (by simp)
    split at h
    · split at h
      · rename_i hn
        refine ⟨_, h, guard hg ⟨_, ?_, .sc _ rfl⟩ rfl⟩
        have hn : m.size + n.size ≤ 140737488351232 := by simpa using hn
        have : ¬ ((m.size + n.size : Nat) : Int) > IntKind.i64.max := by
          have : IntKind.max .i64 = 9223372036854775807 := by decide
          omega
        show (Op.stringOp .add m n).run P w = _
        unfold Op.stringOp
        simp only [if_neg this]
        rfl
      · cases h
    · split at h
      · rename_i z hz
        have hb : binOp op t (.string m) (.string n) = Op.stringOp op m n := by cases op <;> rfl
        exact ⟨_, h, guard hg ⟨_, wK hz, .sc _ (JE hz)⟩ hb⟩
      · cases h
  · rename_i m n
    obtain rfl := hd.sc_eq
    obtain rfl := he.sc_eq
    have hg : (eqGuard op t x y (.bool m) (.bool n)).run P w = .ok () w := gJ (fun _ _ h _ => by cases h) (by simp)
    split at h
    · split at h
      · rename_i hu
        refine ⟨_, h, guard hg ⟨_, ?_, .sc _ rfl⟩ rfl⟩
        simp [binOp, Sem.run_bind, Op.equal, Op.maxDepth, run_equalIn_bool' w _ t m n hu]
      · cases h
    · split at h
      · rename_i hu
        refine ⟨_, h, guard hg ⟨_, ?_, .sc _ rfl⟩ rfl⟩
        simp [binOp, Sem.run_bind, Op.equal, Op.maxDepth, run_equalIn_bool' w _ t m n hu, bne]
      · cases h
    · cases h
  · rename_i xs ys
    have agg : ∀ {c : Bool}, Jo P t xs ys = some c → ∃ cs ds, u = .agg cs ∧ v = .agg ds ∧ P.eqGuardType P.depth t = false ∧ (Op.equal t u v).run P w = .ok c w := by
      intro c hc
      unfold Jo at hc
      split at hc
      · rename_i s hs
        split at hc
        · rename_i hcm
          simp only [ai, b9] at hcm
          split at hc
          · rename_i x1 y1 hx1 hy1
            simp only [aa] at hc
            subst hc
            cases hd with | agg _ cs hcs => cases he with | agg _ ds hds =>
              obtain ⟨c1, c2, e1, k1, k2⟩ := Sh.dec_ok hx1 hcs
              obtain ⟨d1, d2, e2, m1, m2⟩ := Sh.dec_ok hy1 hds
              cases k2
              cases m2
              rw [aK] at e1 e2
              obtain ⟨z1, z0, D, z2, z3⟩ := oy hcm.1.2
              refine ⟨cs, ds, rfl, rfl, hcm.2, ?_⟩
              have hmu := hcm.1.1
              have := AO (P := P) (w := w) (m := Op.maxDepth) (by decide) hcm.1.2 (e1 ▸ k1) (e2 ▸ m1)
              simpa [mY, hmu, Op.equal] using this
          · cases hc
        · cases hc
      · cases hc
    split at h
    · split at h
      · rename_i c hc
        obtain ⟨cs, ds, rfl, rfl, g1, g2⟩ := agg hc
        refine ⟨_, h, guard (uI g1) ⟨_, ?_, .sc _ rfl⟩ rfl⟩
        simp [binOp, Sem.run_bind, g2]
      · cases h
    · split at h
      · rename_i c hc
        obtain ⟨cs, ds, rfl, rfl, g1, g2⟩ := agg hc
        refine ⟨_, h, guard (uI g1) ⟨_, ?_, .sc _ rfl⟩ rfl⟩
        simp [binOp, Sem.run_bind, g2]
      · cases h
    · cases h
  · cases hd with | ptr n _ _ b hb hp =>
      obtain rfl := he.sc_eq
      exact yd h _ (gJ (fun _ _ h _ => by cases h) (by simp)) (fun e hu => E5 hu _)
  · cases hd with | rp n sz i _ b len cap hb hi hp =>
      obtain rfl := he.sc_eq
      exact yd h _ (gJ (fun _ _ h _ => by cases h) (by simp)) (fun e hu => E5 hu _)
  · obtain rfl := hd.sc_eq
    obtain rfl := he.sc_eq
    exact yd h _ (gJ (fun _ _ h _ => by cases h) (by simp)) (fun e hu => Kf hu)
  · cases h
end
section
variable {P : Program} {I : In} {w : World} {T : List DV} {a : Act} {H : Heap} {α : Type}
theorem jo {i : Int} {n : Nat} (h : rD i n = true) : 0 ≤ i ∧ i < (n : Int) ∧ i.toNat < n := by
 simp only [rD, ai, aj] at h
 omega
theorem Kg (s : ByteArray) (i : Int) (h1 : i.toNat < s.size) : bt s i = ((s[i.toNat]'h1).toNat : Int) := by
 unfold bt
 have : s.data.toList.getD i.toNat 0 = s[i.toNat]'h1 := by
  rw [av, aF (by simpa using h1)]
  rfl
 rw [this]
theorem zZ {t : TypeId} {s : ByteArray} {k : IntKind} {i : Int} (hu : P.underlying t = some .string) (h0 : 0 ≤ i) (h1 : i.toNat < s.size) : (Instr.index t (.string s) (.int k i)).run P w = .ok (.int .u8 (bt s i)) w := by
 rw [Kg s i h1]
 simp [Instr.index, Sem.run_bind, asIntOf, run_underlying hu, if_pos h0, ByteArray.getElem?_lt' s _ h1]
theorem ve {t : TypeId} {its : List DV} {cs : List Value} {o : Nat} {v : DV} (hC : CR I w its ((cs.drop o).take (dE P t))) (hle : o + dE P t ≤ cs.length) (hv : mO P t its = some v) : i1 P I w (part t cs.toArray o) v := by
 rcases CI hv hC with ⟨h1, h2⟩ | ⟨h1, h2, u, he, h3, h4⟩
 ·obtain ⟨d, hd, hr⟩ := qj h1
  refine ⟨_, kv hd hle (fun h => by rw [h1] at h; cases h), ?_⟩
  simpa [mY, h1] using h2
 ·obtain ⟨d, hd⟩ := Option.isSome_iff_exists.1 h2
  have hs : dE P t = 1 := by
   have := congrArg List.length he
   simp at this
   omega
  refine ⟨_, kv hd hle (fun _ => hs), ?_⟩
  simpa [mY, h1, he] using h3
theorem CR.arrH {s : Sh} {n : Nat} {ys : List s.T} {r : List DV} {cs : List Value} (h : CR I w (.arr s n ys :: r) cs) : ∃ c c2, cs = c ++ c2 ∧ (Sh.arr n s).K I.R w ys c ∧ CR I w r c2 := by
 cases h with
 | one _ _ u c2 hv hu hr => cases hv
 | arr _ _ _ _ c c2 hk h1 hr => exact ⟨c, c2, rfl, hk, hr⟩
theorem CR.arr1 {s : Sh} {n : Nat} {ys : List s.T} {cs : List Value} (h : CR I w [.arr s n ys] cs) : (Sh.arr n s).K I.R w ys cs := by
 obtain ⟨c, c2, rfl, h1, h2⟩ := h.arrH
 cases h2
 simpa using h1
theorem q9 {t e : TypeId} {m : Nat} {c : Array Value} {kd : IntKind} {i : Int} (hu : P.underlying t = some (.array m e)) (h0 : 0 ≤ i) (h1 : i < (m : Int)) {D : TypeDesc} (he : P.underlying e = some D) :
  (Instr.index t (.agg c) (.int kd i)).run P w = (part e c (i.toNat * dE P e)).run P w := by
 simp [Instr.index, Sem.run_bind, asIntOf, run_underlying hu, h0, h1, oU he]
theorem ql {t : TypeId} {its : List DV} {v : DV} (h : mO P t its = some v) : ∃ D, P.underlying t = some D := by
 unfold mO at h
 split at h
 ·rename_i hm
  obtain ⟨d, hd, _⟩ := qj hm
  exact ⟨d, hd⟩
 ·split at h
  ·rename_i hu
   exact Option.isSome_iff_exists.1 hu
  ·cases h
theorem vf {R : Nat → Prop} {s : Sh} {n : Nat} {ys : List s.T} {c : List Value} {i : Nat} (hk : (Sh.arr n s).K R w ys c) (hi : i < n) : s.K R w (ys.getD i s.dflt) ((c.drop (i * s.sz)).take s.sz) ∧ i * s.sz + s.sz ≤ c.length := by
 refine ⟨hk.2.2 i _ (getD_some ys i s.dflt (by rw [hk.1]; exact hi)), ?_⟩
 rw [hk.2.1, ← aQ]
 exact aU _ hi
theorem yN {t : TypeId} {d : DV} {u : Value} {kd : IntKind} {i : Int} {k : DV → Option α} {r : α} (hd : VR I w d u) (h : pl P t d i k = some r) : ∃ v, k v = some r ∧ i1 P I w (Instr.index t u (.int kd i)) v := by
 unfold pl at h
 split at h
 ·obtain rfl := hd.sc_eq
  split at h
  ·rename_i hu
   split at h
   ·rename_i hb
    obtain ⟨h0, h1, h2⟩ := jo hb
    exact ⟨_, h, _, zZ hu h0 h2, .sc _ rfl⟩
   ·cases h
  ·cases h
 ·rename_i cs
  cases hd with | agg _ c hc =>
  split at h
  ·rename_i m e hu
   split at h
   ·rename_i s m' ys
    split at h
    ·rename_i hm
     subst hm
     split at h
     ·rename_i hz
      split at h
      ·rename_i hb
       obtain ⟨h0, h1, h2⟩ := jo hb
       split at h
       ·rename_i v hv
        obtain ⟨D, hD⟩ := ql hv
        obtain ⟨g1, g2⟩ := vf hc.arr1 h2
        obtain ⟨q, m1, m2⟩ := ve (P := P) (cs := c.toList) (o := i.toNat * dE P e) (by rw [hz]; exact Sh.enc_ok (I := I) g1) (by rw [hz]; exact g2) hv
        exact ⟨v, h, q, by rw [q9 hu h0 h1 hD]; simpa using m1, m2⟩
       ·cases h
      ·cases h
     ·cases h
    ·cases h
   ·split at h
    ·rename_i hb
     obtain ⟨h0, h1, h2⟩ := jo hb
     split at h
     ·rename_i r1 hr1
      split at h
      ·rename_i its hits
       split at h
       ·rename_i v hv
        obtain ⟨D, hD⟩ := ql hv
        obtain ⟨c1, c2, e1, l1, _, k1⟩ := lI hr1 hc
        obtain ⟨d1, d2, rfl, l2, k2⟩ := lJ hits k1
        have hle := congrArg List.length e1
        simp only [aT] at hle
        have e2 : (c.toList.drop (i.toNat * dE P e)).take (dE P e) = d1 := by rw [e1, ← l1, ← l2]; simp
        obtain ⟨q, m1, m2⟩ := ve (P := P) (cs := c.toList) (o := i.toNat * dE P e) (by rw [e2]; exact k2) (by omega) hv
        exact ⟨v, h, q, by rw [q9 hu h0 h1 hD]; simpa using m1, m2⟩
       ·cases h
      ·cases h
     ·cases h
    ·cases h
  ·cases h
 ·cases h
theorem wL {t : TypeId} {f o : Nat} {u : TypeId} (h : tW P t f = some (o, u)) : ∃ fs g, P.underlying t = some (.struct fs) ∧ fs[f]? = some g ∧ g.offset = o ∧ g.type = u ∧ dE P u ≠ 0 := by
 unfold tW at h
 split at h
 ·rename_i fs hu
  split at h
  ·rename_i g hg
   split at h
   ·cases h
   ·rename_i hz
    simp only [aa, ah] at h
    exact ⟨fs, g, hu, hg, h.1, h.2, by rw [← h.2]; exact hz⟩
  ·cases h
 ·cases h
theorem yO {t : TypeId} {d v : DV} {u : Value} {f : Nat} (hd : VR I w d u) (h : AF P t d f = some v) : i1 P I w (Instr.field t u f) v := by
 unfold AF at h
 split at h
 ·rename_i o ft hf
  obtain ⟨fs, g, hu, hg, rfl, rfl, hz⟩ := wL hf
  split at h
  ·rename_i cs
   cases hd with | agg _ c hc =>
   split at h
   ·rename_i r hr
    split at h
    ·rename_i its hits
     obtain ⟨D, hD⟩ := ql h
     obtain ⟨c1, c2, e1, l1, _, k1⟩ := lI hr hc
     obtain ⟨d1, d2, rfl, l2, k2⟩ := lJ hits k1
     have hle := congrArg List.length e1
     simp only [aT] at hle
     have e2 : (c.toList.drop g.offset).take (dE P g.type) = d1 := by rw [e1, ← l1, ← l2]; simp
     obtain ⟨q, m1, m2⟩ := ve (P := P) (cs := c.toList) (o := g.offset) (by rw [e2]; exact k2) (by omega) h
     refine ⟨q, ?_, m2⟩
     simp only [Instr.field, Sem.run_bind, run_underlying hu, Result.andThen_ok, hg, asAgg, Sem.run_pure]
     simpa using m1
    ·cases h
   ·cases h
  ·cases h
 ·cases h
theorem oV {t : TypeId} {f : Nat} {fs : Array Field} {g : Field} {ad : Addr} (hu : P.underlying t = some (.struct fs)) (hg : fs[f]? = some g) (hz : dE P g.type ≠ 0) : (Instr.fieldAt t (.pointer (some ad)) f).run P w = .ok (.pointer (some (ad.add g.offset))) w := by
 have hi : ∃ i, P.info? g.type = some i ∧ i.size = dE P g.type := by
  unfold dE at hz ⊢
  cases hq : P.info? g.type with
  | none => rw [hq] at hz; exact absurd rfl hz
  | some i => exact ⟨i, rfl, rfl⟩
 obtain ⟨i, hi1, hi2⟩ := hi
 have hz2 : i.size ≠ 0 := by rw [hi2]; exact hz
 simp [Instr.fieldAt, Sem.run_bind, run_underlying hu, hg, Instr.sureAddr, fieldPlace, sizeOf, typeInfo, hi1, hz2]
theorem uJ (p : List Ix) (k : Nat) : dT (p ++ [.off k]) = dT p + k := by
 induction p with
 | nil => simp [dT]
 | cons x p ih => cases x <;> simp [dT, ih, bH]
theorem wM (p : List Ix) (k : Nat) (h : ox p) : ox (p ++ [.off k]) := by
 induction p with
 | nil => trivial
 | cons x p ih => cases x with
  | ix i m sz => exact ⟨h.1, ih h.2⟩
  | off k => exact ih h
theorem JF (p : List Ix) (i m sz : Nat) : dT (p ++ [.ix i m sz]) = dT p + i * sz := by
 induction p with
 | nil => simp [dT]
 | cons x p ih => cases x <;> simp [dT, ih, bH]
theorem Kh (p : List Ix) {i m sz : Nat} (hi : i < m) (h : ox p) : ox (p ++ [.ix i m sz]) := by
 induction p with
 | nil => exact ⟨hi, trivial⟩
 | cons x p ih => cases x with
  | ix i m sz => exact ⟨h.1, ih h.2⟩
  | off k => exact ih h
theorem qm (ad : Addr) (n m : Nat) : (ad.add n).add m = ad.add (n + m) := Go.Deep.add_add ad n m
theorem yP : ∀ {its r : List DV} {o : Nat}, jl o its = some r → ∀ d ∈ r, d ∈ its
 | [], r, o, h, d, hd => by
  simp only [jl] at h
  split at h
  ·simp only [aa] at h; subst h; exact hd
  ·cases h
 | x :: l, r, o, h, d, hd => by
  simp only [jl] at h
  split at h
  ·simp only [aa] at h; subst h; exact hd
  ·split at h
   ·exact aB _ (yP h d hd)
   ·cases h
theorem qn {ad : Addr} (h : ad.spot = none) (n : Nat) : (ad.add n).spot = none := by unfold Addr.add; split <;> first | exact h | rfl
theorem ra {t : TypeId} {d v : DV} {u : Value} {f : Nat} (hd : VR I w d u) (h : qi P t d f = some v) : i1 P I w (Instr.fieldAt t u f) v := by
 unfold qi at h
 split at h
 ·rename_i o ft hf
  obtain ⟨fs, g, hu, hg, rfl, rfl, hz⟩ := wL hf
  split at h
  ·rename_i n o' p
   cases hd with | ptr _ _ _ b hb hp =>
   refine ⟨_, oV hu hg hz, ?_⟩
   rw [Addr.add_mid]
   split at h
   ·simp only [aa] at h
    subst h
    have := VR.ptr (I := I) (w := w) n (o' + g.offset) [] b hb trivial
    simpa [dT] using this
   ·simp only [aa] at h
    subst h
    have := VR.ptr (I := I) (w := w) n o' (p ++ [.off g.offset]) b hb (wM p _ hp)
    rw [uJ, ← bH] at this
    exact this
  ·rename_i n sz i p
   cases hd with | rp _ _ _ _ b len cap hb hi hp =>
   refine ⟨_, oV hu hg hz, ?_⟩
   rw [Addr.add_mid]
   simp only [aa] at h
   subst h
   have := VR.rp (I := I) (w := w) n sz i (p ++ [.off g.offset]) b len cap hb hi (wM p _ hp)
   rw [uJ, ← bH] at this
   exact this
  ·rename_i its
   cases hd with | pi _ ad cs h0 hR him hC hc =>
   refine ⟨_, oV hu hg hz, ?_⟩
   split at h
   ·rename_i r hr
    simp only [aa] at h
    subst h
    obtain ⟨c1, c2, rfl, l1, _, k1⟩ := lI hr hC
    refine .pi r _ c2 (qn h0 _) (by rw [iz]; exact hR) (fun d hd => him d (yP hr d hd)) k1 (fun j u hu => ?_)
    rw [qm]
    refine hc _ u ?_
    rw [bg (by omega), ← hu]
    congr 1
    omega
   ·cases h
  ·cases h
 ·cases h
end
section
variable {P : Program} {I : In} {w : World} {T : List DV} {a : Act} {H : Heap} {α : Type}
theorem gi {e : TypeId} {n : Nat} (h : ke P e n = true) : ∃ i, P.info? e = some i ∧ i.size = n := by
 unfold ke at h
 split at h
 ·rename_i i hi
  exact ⟨i, hi, by simpa using h⟩
 ·cases h
theorem rM {t : TypeId} {n : Nat} (h : rE P t n = true) : ∃ e i, P.underlying t = some (.slice e) ∧ P.info? e = some i ∧ i.size = n := by
 unfold rE at h
 split at h
 ·rename_i e hu
  obtain ⟨i, h1, h2⟩ := gi h
  exact ⟨e, i, hu, h1, h2⟩
 ·cases h
theorem jA {t e : TypeId} {i : TypeInfo} {ad : Addr} {len cap : Nat} {kd : IntKind} {j : Int} (hu : P.underlying t = some (.slice e)) (hi : P.info? e = some i) (h0 : 0 ≤ j) (h1 : j < (len : Int)) :
  (Instr.indexAt t (.slice (some ad) len cap) (.int kd j)).run P w = .ok (.pointer (some (ad.add (j.toNat * i.size)))) w := by
 simp [Instr.indexAt, Sem.run_bind, asIntOf, run_underlying hu, h0, h1, sizeOf, typeInfo, hi]
theorem jB {t e : TypeId} {i : TypeInfo} {ad : Addr} {len : Nat} {kd : IntKind} {j : Int} (hu : P.underlying t = some (.array len e)) (hi : P.info? e = some i) (h0 : 0 ≤ j) (h1 : j < (len : Int)) :
  (Instr.indexAt t (.pointer (some ad)) (.int kd j)).run P w = .ok (.pointer (some (ad.add (j.toNat * i.size)))) w := by
 simp [Instr.indexAt, Sem.run_bind, asIntOf, run_underlying hu, h0, h1, sizeOf, typeInfo, hi, Instr.sureAddr]
theorem jq {n : Nat} {E : TypeId} {s : Sh} {xs : List s.T} (hH : HR I w H) (h : H n = some (.row E s xs)) {sz : Nat} {A : Option Addr} {len cap : Nat} (hi : I.ι n = some (.row sz (.slice A len cap))) :
  sz = s.sz ∧ len = xs.length ∧ len ≤ cap ∧ (0 < len → ∃ b, A = some ⟨b, 0, none⟩) := by
 obtain ⟨v, cs, h1, h2, h3⟩ := hH.row n E s xs h
 rw [hi] at h1
 simp only [aa, Ent.row.injEq] at h1
 obtain ⟨rfl, rfl⟩ := h1
 rcases h2.2 with ⟨e, e0⟩ | ⟨g, c, cur, e, _, _, hcap, _⟩
 ·simp only [Value.slice.injEq] at e
  obtain ⟨rfl, rfl, rfl⟩ := e
  exact ⟨rfl, by omega, ak _, fun h => by omega⟩
 ·simp only [Value.slice.injEq] at e
  obtain ⟨rfl, rfl, rfl⟩ := e
  exact ⟨rfl, rfl, hcap, fun _ => ⟨g, rfl⟩⟩
theorem uK {t : TypeId} {d : DV} {u : Value} {kd : IntKind} {i : Int} {k : DV → Option α} {r : α} (hH : HR I w H) (hd : VR I w d u) (h : iD P t H d i k = some r) : ∃ v, k v = some r ∧ i1 P I w (Instr.indexAt t u (.int kd i)) v := by
 unfold iD at h
 split at h
 ·rename_i s xs
  cases hd with | vs _ _ _ hk =>
  split at h
  ·rename_i he
   split at h
   ·rename_i hb
    obtain ⟨h0, h1, h2⟩ := jo hb
    obtain ⟨e, inf, hu, hi, hs⟩ := rM he
    obtain ⟨A, cap, e1, e2, e3⟩ := hk
    simp only [bX, bC] at e1
    subst e1
    have hne : xs ≠ [] := by
     intro e
     rw [e] at h2
     simp at h2
    obtain ⟨ad, rfl, g1, g2, g3⟩ := e3 hne
    obtain ⟨c, m1, m2, m3⟩ := g3 _ _ (getD_some xs i.toNat s.dflt h2)
    refine ⟨_, h, _, jA hu hi h0 h1, ?_⟩
    rw [hs]
    exact .pi _ _ c (qn g1 _) (by rw [iz]; exact g2) (Sh.enc_imm s _) (Sh.enc_ok m2) (fun j q hq => by rw [qm]; exact m3 j q hq)
   ·cases h
  ·cases h
 ·rename_i n
  cases hd with | rw _ sz v hi hs =>
  split at h
  ·rename_i E s xs hrow
   split at h
   ·rename_i he
    split at h
    ·rename_i hb
     obtain ⟨h0, h1, h2⟩ := jo hb
     obtain ⟨A, l, c, rfl⟩ := hs
     obtain ⟨rfl, rfl, _, hA⟩ := jq hH hrow hi
     obtain ⟨b, rfl⟩ := hA (by omega)
     obtain ⟨e, inf, hu, hinf, hsz⟩ := rM he
     refine ⟨_, h, _, jA hu hinf h0 h1, ?_⟩
     rw [hsz, Addr.add_mid, bq]
     exact .rp n s.sz i.toNat [] b _ c hi h2 trivial
    ·cases h
   ·cases h
  ·cases h
 ·rename_i n o l
  cases hd with | sl _ _ _ sz A A' len cap cap' hi hl h0' h1' hc' =>
  split at h
  ·rename_i E s xs hrow
   split at h
   ·rename_i he
    split at h
    ·rename_i hb
     obtain ⟨h0, h1, h2⟩ := jo hb
     obtain ⟨rfl, rfl, _, hA⟩ := jq hH hrow hi
     obtain ⟨b, rfl, rfl⟩ := h1' (by omega)
     obtain ⟨e, inf, hu, hinf, hsz⟩ := rM he
     refine ⟨_, h, _, jA hu hinf h0 h1, ?_⟩
     rw [hsz, Addr.add_mid, ← bx]
     have := VR.rp (I := I) (w := w) n s.sz (o + i.toNat) [] b _ cap hi (by omega) trivial
     simpa [dT] using this
    ·cases h
   ·cases h
  ·cases h
 ·rename_i n o p
  cases hd with | ptr _ _ _ b hb hp =>
  split at h
  ·rename_i m e hu
   split at h
   ·rename_i cs hcs
    split at h
    ·rename_i its hits
     split at h
     ·rename_i s m' ys r' hat
      split at h
      ·rename_i hm
       subst hm
       split at h
       ·rename_i hz
        split at h
        ·rename_i hbd
         obtain ⟨h0, h1, h2⟩ := jo hbd
         obtain ⟨inf, hinf, hsz⟩ := gi hz
         refine ⟨_, h, _, jB hu hinf h0 h1, ?_⟩
         rw [hsz, Addr.add_mid]
         have := VR.ptr (I := I) (w := w) n o (p ++ [.ix i.toNat m' s.sz]) b hb (Kh p h2 hp)
         rw [JF, ← bH] at this
         exact this
        ·cases h
       ·cases h
      ·cases h
     ·split at h
      ·split at h
       ·rename_i hz
        split at h
        ·rename_i hbd
         obtain ⟨h0, h1, h2⟩ := jo hbd
         obtain ⟨inf, hinf, hsz⟩ := gi hz
         refine ⟨_, h, _, jB hu hinf h0 h1, ?_⟩
         rw [hsz, Addr.add_mid]
         have := VR.ptr (I := I) (w := w) n (o + i.toNat * dE P e) [] b hb trivial
         simpa [dT] using this
        ·cases h
       ·cases h
      ·cases h
     ·cases h
    ·cases h
   ·cases h
  ·cases h
 ·rename_i its
  cases hd with | pi _ ad cs h0' hR him hC hc =>
  split at h
  ·rename_i m e hu
   split at h
   ·rename_i s m' ys r'
    split at h
    ·rename_i hm
     subst hm
     split at h
     ·rename_i hz
      split at h
      ·rename_i hbd
       obtain ⟨h0, h1, h2⟩ := jo hbd
       obtain ⟨inf, hinf, hsz⟩ := gi hz
       obtain ⟨c1, c2, rfl, k1, k2⟩ := hC.arrH
       obtain ⟨g1, g2⟩ := vf k1 h2
       refine ⟨_, h, _, jB hu hinf h0 h1, ?_⟩
       rw [hsz]
       refine .pi _ _ _ (qn h0' _) (by rw [iz]; exact hR) (Sh.enc_imm s _) (Sh.enc_ok g1) (fun j q hq => ?_)
       rw [qm]
       refine hc _ q ?_
       rw [aY] at hq
       split at hq
       ·rw [ba] at hq
        rw [bc (List.getElem?_eq_some_iff.1 hq).1]
        exact hq
       ·cases hq
      ·cases h
     ·cases h
    ·cases h
   ·cases h
  ·cases h
 ·cases h
theorem CL {t ty : TypeId} {d : DV} {u : Value} {n : Nat} (hH : HR I w H) (hd : VR I w d u) (h : xZ P t H d = some n) : (Builtin.len_ #[t] ty #[u]).run P w = .ok (.int .i64 (n : Int)) w := by
 unfold xZ at h
 split at h
 ·rename_i hu
  split at h
  ·simp only [aa] at h
   obtain rfl := hd.sc_eq
   subst h
   simp [Builtin.len_, Sem.run_bind, run_underlying hu, goInt]
  ·cases h
 ·rename_i e hu
  have fin : ∀ A l c, u = .slice A l c → l = n → (Builtin.len_ #[t] ty #[u]).run P w = .ok (.int .i64 (n : Int)) w := by
   rintro A l c rfl rfl
   simp [Builtin.len_, Sem.run_bind, run_underlying hu, goInt]
  split at h
  ·split at h
   ·rename_i hz
    simp only [aa] at h
    obtain rfl := hd.sc_eq
    exact fin _ _ _ rfl (by omega)
   ·cases h
  ·simp only [aa] at h
   cases hd with | vs _ _ _ hk =>
   obtain ⟨A, cap, e1, _⟩ := hk
   simp only [bX, bC] at e1
   exact fin _ _ _ e1 h
  ·split at h
   ·rename_i E s xs hrow
    simp only [aa] at h
    cases hd with | rw _ sz v hi hs =>
    obtain ⟨A, l, c, rfl⟩ := hs
    obtain ⟨_, h2, _⟩ := jq hH hrow hi
    exact fin _ _ _ rfl (by omega)
   ·cases h
  ·simp only [aa] at h
   cases hd with | sl _ _ _ sz A A' len cap cap' hi hl h0' h1' hc' => exact fin _ _ _ rfl h
  ·cases h
 ·rename_i m e hu
  simp only [aa] at h
  subst h
  simp only [Builtin.len_, List.getElem?_toArray, bp]
  rw [Sem.run_bind, run_underlying hu, Result.andThen_ok]
  cases u <;> rfl
 ·cases h
theorem yQ {d : DV} {u : Value} {n : Nat} {k : Nat → Option α} {r : α} (hd : VR I w d u) (h : kL d n k = some r) : ∃ l, k l = some r ∧ l ≤ n ∧ ∀ y c, n ≤ y → (Instr.sliceBound u y c).run P w = .ok l w := by
 unfold kL at h
 split at h
 ·rename_i kd i
  obtain rfl := hd.sc_eq
  split at h
  ·rename_i hc
   simp only [ai, aj] at hc
   refine ⟨_, h, by omega, fun y c hy => ?_⟩
   have : i ≤ (y : Int) := by omega
   simp [Instr.sliceBound, Sem.run_bind, asIntOf, hc, this]
  ·cases h
 ·cases h
theorem CM {lo : Option DV} {lo' : Option Value} {k : Nat → Nat → Option α} {q : Nat} {r : α} (hlo : (lo = none ∧ lo' = none) ∨ ∃ d u, lo = some d ∧ lo' = some u ∧ VR I w d u) (h : rG lo k q = some r) : ∃ l, k l q = some r ∧ l ≤ q ∧ ((match lo' with
  | some v => Instr.sliceBound v q .sliceB
  | none => pure 0) : Sem Nat).run P w = .ok l w := by
 rcases hlo with ⟨rfl, rfl⟩ | ⟨d, u, rfl, rfl, hd⟩
 ·exact ⟨0, h, aq _, rfl⟩
 ·obtain ⟨l, h1, h2, h3⟩ := yQ (P := P) (k := fun l => k l q) hd h
  exact ⟨l, h1, h2, h3 q .sliceB (ak _)⟩
theorem ng {n cap : Nat} {lo hi : Option DV} {lo' hi' : Option Value} {k : Nat → Nat → Option α} {r : α} (b : Bool) (hcap : n ≤ cap) (hlo : (lo = none ∧ lo' = none) ∨ ∃ d u, lo = some d ∧ lo' = some u ∧ VR I w d u) (hhi : (hi = none ∧ hi' = none) ∨ ∃ d u, hi = some d ∧ hi' = some u ∧ VR I w d u)
  (h : gI n lo hi k = some r) : ∃ l q, k l q = some r ∧ l ≤ q ∧ q ≤ n ∧ (Instr.sliceBounds b n cap lo' hi' none).run P w = .ok (l, q, cap) w := by
 unfold gI at h
 rcases hhi with ⟨rfl, rfl⟩ | ⟨d, u, rfl, rfl, hd⟩
 ·obtain ⟨l, h1, h2, h3⟩ := CM (P := P) hlo h
  refine ⟨l, n, h1, h2, ak _, ?_⟩
  cases lo' with
  | none => simp only [Instr.sliceBounds, Sem.run_bind, Sem.run_pure, Result.andThen_ok] at h3 ⊢; simp_all
  | some v => simp only [Instr.sliceBounds, Sem.run_bind, Sem.run_pure, Result.andThen_ok, Option.isSome_none, aD, au] at h3 ⊢; rw [h3]; rfl
 ·obtain ⟨q, h1, h2, h3⟩ := yQ (P := P) (k := rG lo k) hd h
  obtain ⟨l, g1, g2, g3⟩ := CM (P := P) hlo h1
  refine ⟨l, q, g1, g2, h2, ?_⟩
  cases lo' with
  | none => simp only [Instr.sliceBounds, Sem.run_bind, Sem.run_pure, Result.andThen_ok, h3 cap _ hcap] at g3 ⊢; simp_all
  | some v => simp only [Instr.sliceBounds, Sem.run_bind, Sem.run_pure, Result.andThen_ok, h3 cap _ hcap, Option.isSome_none, aD, au] at g3 ⊢; rw [g3]; rfl
theorem NS {R : Nat → Prop} {s : Sh} {xs : List s.T} {A : Option Addr} {cap l q : Nat} (h : (Sh.sl s).K R w xs [.slice A xs.length cap]) (h1 : l ≤ q) (h2 : q ≤ xs.length) :
  (Sh.sl s).K R w ((xs.take q).drop l) [.slice (if cap = l then A else A.map (·.add (l * s.sz))) (q - l) (cap - l)] := by
 obtain ⟨A0, cap0, e, g2, g3⟩ := h
 simp only [bX, Value.slice.injEq, bC, true_and] at e
 obtain ⟨rfl, rfl⟩ := e
 have hlen : ((xs.take q).drop l).length = q - l := by simp; omega
 refine ⟨_, _, by rw [hlen], by rw [hlen]; omega, fun hn => ?_⟩
 have hlt : l < q := by
  rcases am l q with h | h
  ·exact h
  ·exact absurd (bj (by omega)) hn
 have hne : xs ≠ [] := by
  intro e
  rw [e] at h2
  simp at h2
  omega
 obtain ⟨ad, rfl, m1, m2, m3⟩ := g3 hne
 rw [if_neg (by omega)]
 refine ⟨_, rfl, qn m1 _, by rw [iz]; exact m2, fun i x hx => ?_⟩
 have hx2 : xs[l + i]? = some x := by
  rw [ba, aY] at hx
  split at hx
  ·exact hx
  ·cases hx
 obtain ⟨c, k1, k2, k3⟩ := m3 _ x hx2
 refine ⟨c, k1, k2, fun j u hu => ?_⟩
 have := k3 j u hu
 rw [qm, ← this]
 congr 2
 rw [bx]
 omega
theorem E6 {t : TypeId} {d : DV} {u : Value} {lo hi mx : Option DV} {lo' hi' mx' : Option Value} {k : DV → Option α} {r : α} (hH : HR I w H) (hd : VR I w d u) (hlo : (lo = none ∧ lo' = none) ∨ ∃ d u, lo = some d ∧ lo' = some u ∧ VR I w d u) (hhi : (hi = none ∧ hi' = none) ∨ ∃ d u, hi = some d ∧ hi' = some u ∧ VR I w d u) (hmx : mx = none → mx' = none)
  (h : kM P t H d lo hi mx k = some r) : ∃ v, k v = some r ∧ i1 P I w (Instr.sliceAt t u lo' hi' mx') v := by
 unfold kM at h
 split at h
 ·cases h
 ·obtain rfl := hmx rfl
  split at h
  ·rename_i s hu
   obtain rfl := hd.sc_eq
   obtain ⟨l, q, h1, h2, h3, h4⟩ := ng (P := P) false (ak _) hlo hhi h
   refine ⟨_, h1, _, ?_, .sc _ rfl⟩
   simp [Instr.sliceAt, Instr.slice, Sem.run_bind, run_underlying hu, h4]
  ·rename_i e s xs hu
   cases hd with | vs _ _ _ hk =>
   split at h
   ·rename_i hz
    obtain ⟨inf, hinf, hsz⟩ := gi hz
    obtain ⟨A, cap, e1, e2, e3⟩ := id hk
    simp only [bX, bC] at e1
    subst e1
    obtain ⟨l, q, h1, h2, h3, h4⟩ := ng (P := P) true e2 hlo hhi h
    refine ⟨_, h1, _, ?_, .vs s _ _ (NS hk h2 h3)⟩
    simp [Instr.sliceAt, Instr.slice, Sem.run_bind, run_underlying hu, h4, sizeOf, typeInfo, hinf, hsz]
   ·cases h
  ·rename_i e n hu
   cases hd with | rw _ sz v hi hs =>
   split at h
   ·rename_i E s xs hrow
    split at h
    ·rename_i hE
     subst hE
     split at h
     ·rename_i hz
      obtain ⟨inf, hinf, hsz⟩ := gi hz
      obtain ⟨A, len, cap, rfl⟩ := hs
      obtain ⟨rfl, rfl, hcap, hA⟩ := jq hH hrow hi
      obtain ⟨l, q, h1, h2, h3, h4⟩ := ng (P := P) true hcap hlo hhi h
      refine ⟨_, h1, .slice (if cap = l then A else A.map (·.add (l * s.sz))) (q - l) (cap - l), ?_, ?_⟩
      ·simp [Instr.sliceAt, Instr.slice, Sem.run_bind, run_underlying hu, h4, sizeOf, typeInfo, hinf, hsz]
      ·refine .sl n l (q - l) s.sz A _ xs.length cap _ hi (by omega) (fun h0 => ?_) (fun hp => ?_) (by omega)
       ·subst h0
        refine ⟨?_, by omega⟩
        split
        ·rfl
        ·cases A <;> simp [show ∀ ad : Addr, ad.add 0 = ad from fun _ => rfl]
       ·obtain ⟨b, rfl⟩ := hA (by omega)
        refine ⟨b, rfl, ?_⟩
        rw [if_neg (by omega)]
        simp [Addr.add_mid]
     ·cases h
    ·cases h
   ·cases h
  ·rename_i e n o m hu
   cases hd with | sl _ _ _ sz A A' len cap cap' hi hl h0' h1' hc' =>
   split at h
   ·rename_i E s xs hrow
    split at h
    ·rename_i hE
     subst hE
     split at h
     ·rename_i hz
      obtain ⟨inf, hinf, hsz⟩ := gi hz
      obtain ⟨rfl, rfl, hcap, hA⟩ := jq hH hrow hi
      obtain ⟨l, q, h1, h2, h3, h4⟩ := ng (P := P) true hc' hlo hhi h
      refine ⟨_, h1, .slice (if cap' = l then A' else A'.map (·.add (l * s.sz))) (q - l) (cap' - l), ?_, ?_⟩
      ·simp [Instr.sliceAt, Instr.slice, Sem.run_bind, run_underlying hu, h4, sizeOf, typeInfo, hinf, hsz]
      ·refine .sl n (o + l) (q - l) s.sz A _ xs.length cap _ hi (by omega) (fun h0 => ?_) (fun hp => ?_) (by omega)
       ·have ho : o = 0 := by omega
        have hl0 : l = 0 := by omega
        subst ho
        subst hl0
        obtain ⟨rfl, rfl⟩ := h0' rfl
        refine ⟨?_, by omega⟩
        split
        ·rfl
        ·cases A' <;> simp [show ∀ ad : Addr, ad.add 0 = ad from fun _ => rfl]
       ·obtain ⟨b, rfl, rfl⟩ := h1' (by omega)
        refine ⟨b, rfl, ?_⟩
        rw [if_neg (by omega)]
        simp [Addr.add_mid, bx]
     ·cases h
    ·cases h
   ·cases h
  ·cases h
end
section
variable {P : Program} {I : In} {w : World} {T : List DV} {a : Act} {H : Heap} {α : Type}
theorem nT {d : DV} {v : Value} (h : VR I w d v) (hs : d.storable = true) : CR I w d.items v.cells.toList := by
 have one : ∀ {d : DV} {v : Value}, VR I w d v → v.oneCell' = true → CR I w [d] v.cells.toList := by
  intro d v h h1
  rw [E2 h1]
  exact .one _ _ _ _ h h1 .nil
 cases h with
 | undef v => cases hs
 | sc v h1 => exact one (.sc _ h1) h1
 | ptr n o p b h1 hp => exact one (.ptr n o p b h1 hp) rfl
 | rp n sz i p b len cap h1 hi hp => exact one (.rp n sz i p b len cap h1 hi hp) rfl
 | pi its ad cs h0 hR him hC hc => exact one (.pi its ad cs h0 hR him hC hc) rfl
 | rw n sz v h1 h2 =>
  obtain ⟨A, l, c, rfl⟩ := id h2
  exact one (.rw n sz _ h1 h2) rfl
 | sl n o l sz A A' len cap cap' h1 hl h0 h1' hc => exact one (.sl n o l sz A A' len cap cap' h1 hl h0 h1' hc) rfl
 | vs s xs v hk =>
  have := Sh.K_one hk v (by simp)
  exact one (.vs s xs v hk) this
 | fn F a b a' b' h1 h2 => exact one (.fn F a b a' b' h1 h2) rfl
 | agg ds cs hc => exact hc
 | tup ds vs h => cases hs
 | tab ks vs us b es cl hR hb hE h => exact one (.tab ks vs us b es cl hR hb hE h) rfl
 | mh n b h => exact one (.mh n b h) rfl
def In.put (I : In) (n : Nat) (e : Ent) : In := ⟨fun m => if m = n then some e else I.ι m, I.R⟩
theorem dG {I : In} {n : Nat} {e : Ent} : (I.put n e).ι n = some e := by simp [In.put]
theorem dz {I : In} {n m : Nat} {e : Ent} (h : m ≠ n) : (I.put n e).ι m = I.ι m := by simp [In.put, h]
theorem Heap.set_same {H : Heap} {n : Nat} {b : Option Blk} : H.set n b n = b := by simp [Heap.set]
theorem fB {H : Heap} {n m : Nat} {b : Option Blk} (h : m ≠ n) : H.set n b m = H m := by simp [Heap.set, h]
theorem qo (w : World) (o : Obj) {b : Nat} (h : b < w.heap.size) : (w.alloc o).heap[b]? = w.heap[b]? := Below.heap_alloc w o b h
theorem qp (w : World) (o : Obj) : (w.alloc o).heap[w.heap.size]? = some o := Go.heap_alloc_new w o
theorem oW (w : World) (o : Obj) : (w.alloc o).heap.size = w.heap.size + 1 := World.size_alloc w o
theorem Same.alloc (hH : HR I w H) {n : Nat} (hn : H n = none) (e : Ent) (o : Obj) : Same I (I.put n e) w (w.alloc o) := by
 have h0 := hH.dom n hn
 refine ⟨⟨fun b h => h, fun b h => qo w o (hH.rlt b h)⟩, fun m b h => ?_, fun m sz v h => ?_⟩
 ·rw [dz]
  ·exact h
  ·rintro rfl; rw [h0] at h; cases h
 ·rw [dz]
  ·exact h
  ·rintro rfl; rw [h0] at h; cases h
def BR (I : In) (w : World) (n : Nat) : Blk → Prop
 | .obj cs => ∃ b c t, I.ι n = some (.obj b) ∧ w.heap[b]? = some (.cells c t (0, 0)) ∧ CR I w cs c.toList
 | .row E s xs => ∃ v cs, I.ι n = some (.row s.sz v) ∧ w.ownsRow 0 E s.sz v xs.length cs ∧ (Sh.arr xs.length s).K I.R w xs cs
 | .mp ks vs => MR I w n ks vs
theorem HR.br (hH : HR I w H) {n : Nat} {b : Blk} (h : H n = some b) : BR I w n b := by
 cases b with
 | obj cs => exact hH.obj n cs h
 | row E s xs => exact hH.row n E s xs h
 | mp ks vs => exact hH.mp n ks vs h
theorem HR.of {I : In} {w : World} {H : Heap} (h : ∀ n b, H n = some b → BR I w n b) (dom : ∀ n, H n = none → I.ι n = none) (lt : ∀ n e b, I.ι n = some e → e.blk = some b → b < w.heap.size ∧ ¬ I.R b)
  (inj : ∀ n m e e' b, I.ι n = some e → I.ι m = some e' → e.blk = some b → e'.blk = some b → n = m) (rlt : ∀ b, I.R b → b < w.heap.size) : HR I w H :=
 ⟨fun n cs h1 => h n _ h1, fun n E s xs h1 => h n _ h1, fun n ks vs h1 => h n _ h1, dom, lt, inj, rlt⟩
theorem rN {w w' : World} {base : Nat} {E : TypeId} {sz : Nat} {v : Value} {n : Nat} {xs : List Value} (h : w.ownsRow base E sz v n xs) (hb : ∀ b, v.ownBlock = some b → w'.heap[b]? = w.heap[b]?) : w'.ownsRow base E sz v n xs := by
 refine ⟨h.1, ?_⟩
 rcases h.2 with h1 | ⟨g, cap, cur, rfl, h2, h3, h4⟩
 ·exact .inl h1
 ·exact .inr ⟨g, cap, cur, rfl, h2, (hb g rfl).trans h3, h4⟩
theorem BR.keep {I I' : In} {w w' : World} (hs : Same I I' w w') {n : Nat} {b : Blk} (h : BR I w n b) (hb : ∀ e g, I.ι n = some e → e.blk = some g → w'.heap[g]? = w.heap[g]?) : BR I' w' n b := by
 cases b with
 | obj cs =>
  obtain ⟨b, c, t, h1, h2, h3⟩ := h
  exact ⟨b, c, t, hs.obj _ _ h1, (hb _ b h1 rfl).trans h2, CR.keep hs h3⟩
 | row E s xs =>
  obtain ⟨v, cs, h1, h2, h3⟩ := h
  exact ⟨v, cs, hs.row _ _ _ h1, rN h2 (fun g hg => hb _ g h1 hg), Sh.K_keep hs.keeps h3⟩
 | mp ks vs => exact MR.keep hs h (fun b hb' => hb _ b hb' rfl)
theorem HR.alloc (hH : HR I w H) {n : Nat} (hn : H n = none) {e : Ent} {o : Obj} (he : ∀ b, e.blk = some b → b = w.heap.size) {b : Blk} (hb : BR (I.put n e) (w.alloc o) n b) : HR (I.put n e) (w.alloc o) (H.set n (some b)) := by
 have h0 := hH.dom n hn
 have hs := Same.alloc hH hn e o
 refine HR.of (fun m b' h => ?_) (fun m h => ?_) (fun m e' b' h hb' => ?_) (fun m m' e1 e2 b' h1 h2 g1 g2 => ?_) (fun b' h => ?_)
 ·by_cases hm : m = n
  ·subst hm
   rw [Heap.set_same] at h
   simp only [aa] at h
   subst h
   exact hb
  ·rw [fB hm] at h
   exact (hH.br h).keep hs (fun e' g h1 h2 => qo w o (hH.lt m e' g h1 h2).1)
 ·by_cases hm : m = n
  ·subst hm; rw [Heap.set_same] at h; cases h
  ·rw [fB hm] at h
   rw [dz hm]
   exact hH.dom m h
 ·rw [oW]
  by_cases hm : m = n
  ·subst hm
   rw [dG] at h
   simp only [aa] at h
   subst h
   have := he b' hb'
   subst this
   exact ⟨by omega, fun hR => by have := hH.rlt _ hR; omega⟩
  ·rw [dz hm] at h
   obtain ⟨k1, k2⟩ := hH.lt m e' b' h hb'
   exact ⟨by omega, k2⟩
 ·by_cases hm : m = n
  ·by_cases hm' : m' = n
   ·rw [hm, hm']
   ·exfalso
    subst hm
    rw [dG] at h1
    rw [dz hm'] at h2
    simp only [aa] at h1
    subst h1
    have := he b' g1
    have := (hH.lt m' e2 b' h2 g2).1
    omega
  ·by_cases hm' : m' = n
   ·exfalso
    subst hm'
    rw [dG] at h2
    rw [dz hm] at h1
    simp only [aa] at h2
    subst h2
    have := he b' g2
    have := (hH.lt m e1 b' h1 g1).1
    omega
   ·rw [dz hm] at h1
    rw [dz hm'] at h2
    exact hH.inj m m' e1 e2 b' h1 h2 g1 g2
 ·rw [oW]
  have := hH.rlt b' h
  omega
theorem Ext.alloc (hH : HR I w H) {n : Nat} (hn : H n = none) {e : Ent} {o : Obj} (he : ∀ b, e.blk = some b → b = w.heap.size) : Ext I w (I.put n e) (w.alloc o) := by
 have h0 := hH.dom n hn
 refine ⟨fun m b h => ?_, fun b h => h, fun b hb _ => qo w o hb, fun m e' b h hb => ?_, fun b h => .inl h, by rw [oW]; omega, rfl, rfl, rfl⟩
 ·rw [dz]
  ·exact h
  ·rintro rfl; rw [h0] at h; cases h
 ·by_cases hm : m = n
  ·subst hm
   rw [dG] at h
   simp only [aa] at h
   subst h
   exact .inr (by rw [he b hb]; exact ak _)
  ·rw [dz hm] at h
   exact .inl ⟨m, e', h, hb⟩
theorem Rows.alloc (hH : HR I w H) {n : Nat} (hn : H n = none) (e : Ent) : Rows I (I.put n e) := by
 have h0 := hH.dom n hn
 refine ⟨fun m sz v h => ?_⟩
 rw [dz]
 ·exact h
 ·rintro rfl; rw [h0] at h; cases h
theorem AQ {o : Oper} {n : Nat} {its : List DV} {c : Array Value} {t : TypeId} (hH : HR I w H) (hn : H n = none) (hC : CR I w its c.toList) (hr : (execOp a.eval o).run P w = .ok (.value (.pointer (some ⟨w.heap.size, 0, none⟩))) (w.alloc (.cells c t))) :
  Done P o a I w H (.ptr n 0 []) (some (n, .obj its)) := by
 have he : ∀ b, (Ent.obj w.heap.size).blk = some b → b = w.heap.size := fun b h => by simpa [Ent.blk] using h.symm
 refine ⟨I.put n (.obj w.heap.size), _, _, hr, Ext.alloc hH hn he, Rows.alloc hH hn _, ?_, ?_⟩
 ·exact HR.alloc hH hn he ⟨w.heap.size, c, t, dG, qp w _, CR.keep (Same.alloc hH hn _ _) hC⟩
 ·have := VR.ptr (I := I.put n (.obj w.heap.size)) (w := w.alloc (.cells c t)) n 0 [] w.heap.size dG trivial
  show VR _ _ _ _
  simpa [dT] using this
theorem vg {o : Oper} {n : Nat} {E : TypeId} {s : Sh} {xs : List s.T} {c : Array Value} (hH : HR I w H) (hn : H n = none) (hk : (Sh.arr xs.length s).K I.R w xs c.toList) (hm : xs.length ≤ maxLen) (hr : (execOp a.eval o).run P w = .ok (.value (.slice (some ⟨w.heap.size, 0, none⟩) xs.length xs.length)) (w.alloc (.cells c E))) :
  Done P o a I w H (.rw n) (some (n, .row E s xs)) := by
 have he : ∀ b, (Ent.row s.sz (.slice (some ⟨w.heap.size, 0, none⟩) xs.length xs.length)).blk = some b → b = w.heap.size := fun b h => by simpa [Ent.blk, Value.ownBlock] using h.symm
 refine ⟨I.put n (.row s.sz (.slice (some ⟨w.heap.size, 0, none⟩) xs.length xs.length)), _, _, hr, Ext.alloc hH hn he, Rows.alloc hH hn _, ?_, ?_⟩
 ·refine HR.alloc hH hn he ⟨_, c.toList, dG, ⟨hk.2.1, .inr ⟨w.heap.size, xs.length, c, rfl, aq _, qp w _, ak _, hm, by simpa using hk.2.1, ?_⟩⟩, Sh.K_keep (Same.alloc hH hn _ _).keeps hk⟩
  exact aW (aV hk.2.1)
 ·exact VR.rw n s.sz _ dG ⟨_, _, _, rfl⟩
end
section
variable {P : Program} {I : In} {w : World} {T : List DV} {a : Act} {H : Heap} {α : Type}
theorem E7 {v : Value} (hs : (yI v).storable = true) : CR I w (yI v).items v.cells.toList := nT (wJ v) hs
theorem qq {t : TypeId} {its : List DV} (h : nf P t = some its) : ∃ i z, P.info? t = some i ∧ i.zero = some z ∧ CR I w its z.cells.toList := by
 unfold nf at h
 split at h
 ·rename_i i hi
  split at h
  ·rename_i v hv
   split at h
   ·rename_i hs
    exact ⟨i, v, hi, hv, t8 h (E7 hs)⟩
   ·cases h
  ·cases h
 ·cases h
theorem Hf {o : Oper} {e : TypeId} {n : Nat} {its : List DV} (ho : o.op = .alloc e) (hH : HR I w H) (hn : H n = none) (hz : nf P e = some its) : Done P o a I w H (.ptr n 0 []) (some (n, .obj its)) := by
 obtain ⟨i, z, hi, h1, h2⟩ := qq (I := I) (w := w) hz
 refine AQ (c := z.cells) (t := e) hH hn h2 ?_
 unfold execOp
 rw [ho]
 refine jW ?_
 simp [Instr.alloc, zeroValue, typeInfo, Sem.run_bind, hi, h1, newVar, newRow]
theorem Ki {o : Oper} {e : TypeId} {x : Operand} {n : Nat} {its : List DV} (ho : o.op = .box e x) (hT : TR I w T a) (hH : HR I w H) (hn : H n = none) (hs : (dh T x).storable = true) (hz : oR (wD P 8 e) (dh T x).items = some its) : Done P o a I w H (.ptr n 0 []) (some (n, .obj its)) := by
 refine AQ (c := (a.eval x).cells) (t := e) hH hn (t8 hz (nT (dm hT x) hs)) ?_
 unfold execOp
 rw [ho]
 refine jW ?_
 simp [Instr.box, Sem.run_bind, newVar, newRow]
theorem qt {R : Nat → Prop} : ∀ {s : Sh} {cs r : List Value}, zeroK s cs = some r → ∃ c, cs = c ++ r ∧ s.K R w s.dflt c
 | .int k, cs, r, h => by
  simp only [zeroK] at h
  split at h
  ·split at h
   ·rename_i hk
    split at h
    ·rename_i hn
     simp only [aa] at h
     subst h hk hn
     exact ⟨[_], rfl, rfl⟩
    ·cases h
   ·cases h
  ·cases h
 | .bool, cs, r, h => by
  simp only [zeroK] at h
  split at h
  ·split at h
   ·cases h
   ·rename_i hb
    simp only [aa] at h
    subst h
    simp only [Bool.not_eq_true] at hb
    subst hb
    exact ⟨[_], rfl, rfl⟩
  ·cases h
 | .str, cs, r, h => by
  simp only [zeroK] at h
  split at h
  ·split at h
   ·rename_i hs
    simp only [aa] at h
    subst h hs
    exact ⟨[_], rfl, rfl⟩
   ·cases h
  ·cases h
 | .pair p q, cs, r, h => by
  simp only [zeroK] at h
  split at h
  ·rename_i r1 h1
   obtain ⟨c1, rfl, k1⟩ := qt (R := R) h1
   obtain ⟨c2, rfl, k2⟩ := qt (R := R) h
   exact ⟨c1 ++ c2, by simp, c1, c2, rfl, k1, k2⟩
  ·cases h
 | .sl e, cs, r, h => by
  simp only [zeroK] at h
  split at h
  ·split at h
   ·rename_i hn
    simp only [aa] at h
    subst h hn
    exact ⟨[_], rfl, none, _, rfl, aq _, fun h => absurd rfl h⟩
   ·cases h
  ·cases h
 | .arr n e, cs, r, h => by
  simp only [zeroK] at h
  have key : ∀ (n : Nat) (cs : List Value), zeroK.zeroN (zeroK e) n cs = some r → ∃ c, cs = c ++ r ∧ (Sh.arr n e).K R w (List.replicate n e.dflt) c := by
   intro n
   induction n with
   | zero =>
    intro cs h
    simp only [zeroK.zeroN, aa] at h
    subst h
    exact ⟨[], rfl, rfl, by simp, fun i x hx => by simp at hx⟩
   | succ n ih =>
    intro cs h
    simp only [zeroK.zeroN] at h
    split at h
    ·rename_i r1 h1
     obtain ⟨c1, rfl, k1⟩ := qt (R := R) h1
     obtain ⟨c2, rfl, m1, m2, m3⟩ := ih _ h
     have hl := Sh.K_len k1
     refine ⟨c1 ++ c2, by simp, by simp, by simp [hl, m2, aQ, bF], fun i x hx => ?_⟩
     cases i with
     | zero =>
      simp only [List.replicate_succ, bp, aa] at hx
      subst hx
      simpa [bz (aV hl.symm), aW (aV hl)] using k1
     | succ i =>
      simp only [List.replicate_succ, cw] at hx
      have := m3 i x hx
      rw [aQ, bF, ← bG, bW (aV hl.symm), ci (aV hl), bb]
      exact this
    ·cases h
  exact key n cs h
theorem Kj {R : Nat → Prop} {s : Sh} {z : Array Value} (hz : s.K R w s.dflt z.toList) (hp : 0 < s.sz) (n : Nat) : (Sh.arr n s).K R w (List.replicate n s.dflt) (madeCells z (n * s.sz)).toList := by
 have hl : z.size = s.sz := by simpa using Sh.K_len hz
 refine ⟨by simp, by simp [madeCells], fun i x hx => ?_⟩
 have hi : i < n := by simpa using (List.getElem?_eq_some_iff.1 hx).1
 have hx2 : x = s.dflt := by
  simp [ca, hi] at hx
  exact hx.symm
 subst hx2
 have hle : i * s.sz + s.sz ≤ n * s.sz := by rw [← aQ]; exact aU _ hi
 have : ((madeCells z (n * s.sz)).toList.drop (i * s.sz)).take s.sz = z.toList := by
  apply cy
  intro j
  rw [aY]
  split
  ·rename_i hj
   have hm : (i * s.sz + j) % z.size = j := by rw [hl, Nat.mul_comm, Nat.mul_add_mod, Nat.mod_eq_of_lt hj]
   have h2 : i * s.sz + j < n * s.sz := by omega
   have hj2 : j < z.size := by omega
   simp only [madeCells, ba, cb, Array.getElem?_map, Array.getElem?_range, h2, if_true, bs, hm]
   rw [getElem!_pos z j hj2, Array.getElem?_eq_getElem hj2]
  ·rename_i hj
   rw [bQ (by simp [hl]; omega)]
 rw [this]
 exact hz
theorem yR {R : Nat → Prop} {e : TypeId} {s : Sh} (h : jE P e s = true) : ∃ i z, P.info? e = some i ∧ i.zero = some z ∧ i.size = s.sz ∧ 0 < s.sz ∧ s.K R w s.dflt z.cells.toList := by
 unfold jE at h
 split at h
 ·rename_i i hi
  simp only [ai, ae, aj] at h
  obtain ⟨⟨h1, h2⟩, h3⟩ := h
  split at h3
  ·rename_i z hz
   split at h3
   ·rename_i r hr
    obtain ⟨c, e1, k⟩ := qt (w := w) (R := R) hr
    have : r = [] := by simpa using h3
    subst this
    rw [aK] at e1
    exact ⟨i, z, hi, hz, h1, h2, e1 ▸ k⟩
   ·cases h3
  ·cases h3
 ·cases h
theorem AR {o : Oper} {t e : TypeId} {l c : Operand} {s : Sh} {n : Nat} {q m : Int} (ho : o.op = .makeSlice t l c) (hT : TR I w T a) (hH : HR I w H) (hn : H n = none) (hu : P.underlying t = some (.slice e)) (hl : dh T l = .sc (.int .i64 q)) (hc : dh T c = .sc (.int .i64 m))
  (h1 : (decide (0 ≤ q) && (q == m) && decide (q * (fb P e : Int) ≤ 140737488355328) && decide (1 ≤ fb P e)) = true) (hz : jE P e s = true) : Done P o a I w H (.rw n) (some (n, .row e s (List.replicate q.toNat s.dflt))) := by
 simp only [ai, aj, ae] at h1
 obtain ⟨⟨⟨h0, rfl⟩, h2⟩, h3⟩ := h1
 obtain ⟨i, z, hi, hz0, hsz, hp, hk⟩ := yR (w := w) (R := I.R) hz
 have hb : fb P e = i.bytes := by simp [fb, hi]
 rw [hb] at h2 h3
 have hq : q ≤ 140737488355328 := by
  have : q * 1 ≤ q * (i.bytes : Int) := Int.mul_le_mul_of_nonneg_left (by omega) h0
  omega
 have hl2 := hT
 have e1 := dm hT l
 have e2 := dm hT c
 rw [hl] at e1
 rw [hc] at e2
 have e1 := e1.sc_eq
 have e2 := e2.sc_eq
 have hr := run_make (P := P) w t e i z hu hi hz0 .i64 .i64 q q h0 (bR _) (by rw [Int.mul_comm]; omega) (by omega)
 rw [hsz] at hr
 have := vg (P := P) (a := a) (o := o) (E := e) (s := s) (xs := List.replicate q.toNat s.dflt) (c := madeCells z.cells (q.toNat * s.sz)) hH hn (by rw [List.length_replicate]; exact Kj hk hp q.toNat) (by simp [maxLen]; omega) (by
  unfold execOp
  rw [ho]
  refine jW ?_
  simp only [e1, e2]
  simpa using hr)
 exact this
theorem mP : ∀ (d : List Value) (w : World) (b off : Nat) (c : Array Value) (t : TypeId), w.heap[b]? = some (.cells c t (0, 0)) → off + d.length ≤ c.size →
  ∃ c', (w.setCells b off d).heap[b]? = some (.cells c' t (0, 0)) ∧ c'.toList = dP c.toList off d ∧ (∀ g, g ≠ b → (w.setCells b off d).heap[g]? = w.heap[g]?) ∧ (w.setCells b off d).heap.size = w.heap.size ∧ (w.setCells b off d).os = w.os ∧ (w.setCells b off d).tape = w.tape ∧ (w.setCells b off d).output = w.output
 | [], w, b, off, c, t, h, hl => ⟨c, h, by simp [dP], fun _ _ => rfl, rfl, rfl, rfl, rfl⟩
 | v :: d, w, b, off, c, t, h, hl => by
  simp only [aS] at hl
  have h1 : (w.setCell ⟨b, off, none⟩ v).heap[b]? = some (.cells (c.setIfInBounds off v) t (0, 0)) := by
   simp [World.setCell, Array.getElem?_modify, h]
  obtain ⟨c', k1, k2, k3, k4, k5, k6, k7⟩ := mP d (w.setCell ⟨b, off, none⟩ v) b (off + 1) _ t h1 (by simp; omega)
  refine ⟨c', k1, ?_, fun g hg => ?_, ?_, k5, k6, k7⟩
  ·rw [k2, Array.toList_setIfInBounds]
   obtain ⟨x, y, z, e, hx⟩ : ∃ (x : List Value) (y : Value) (z : List Value), c.toList = x ++ y :: z ∧ x.length = off := by
    have hlt : off < c.toList.length := by simp; omega
    exact ⟨c.toList.take off, c.toList[off], c.toList.drop (off + 1), by rw [← bI hlt, bA], by simp; omega⟩
   rw [e, ← hx]
   have e1 : (x ++ y :: z).set x.length v = x ++ ([v] ++ z) := by simp
   have e2 : x ++ y :: z = x ++ ([y] ++ z) := by simp
   rw [e1, e2]
   have a1 := iZ (c1 := x) (c2 := [v] ++ z) (d := d) (o := 1)
   have a2 := iZ (c1 := x) (c2 := [y] ++ z) (d := v :: d) (o := 0)
   rw [a1]
   rw [cj] at a2
   rw [a2]
   simp [dP, List.drop_succ_cons, bF]
  ·rw [World.setCells, k3 g hg]
   simp [World.setCell, Array.getElem?_modify, Ne.symm hg]
  ·rw [World.setCells, k4]
   simp [World.setCell]
end
section
variable {P : Program} {I : In} {w w' : World} {T : List DV} {a : Act} {H : Heap} {α : Type}
theorem Same.write (hH : HR I w H) {n b : Nat} {e : Ent} (hi : I.ι n = some e) (hb : e.blk = some b) (hs : ∀ g, g ≠ b → w'.heap[g]? = w.heap[g]?) : Same I I w w' :=
 ⟨⟨fun _ h => h, fun g hg => hs g (by rintro rfl; exact (hH.lt n e _ hi hb).2 hg)⟩, fun _ _ h => h, fun _ _ _ h => h⟩
theorem HR.write (hH : HR I w H) {n b : Nat} {e : Ent} (hi : I.ι n = some e) (hb : e.blk = some b) (hs : ∀ g, g ≠ b → w'.heap[g]? = w.heap[g]?) (hz : w'.heap.size = w.heap.size) {k : Blk} (hk : BR I w' n k) : HR I w' (H.set n (some k)) := by
 refine HR.of (fun m b' h => ?_) (fun m h => ?_) (fun m e' b' h hb' => ?_) hH.inj (fun b' h => ?_)
 ·by_cases hm : m = n
  ·subst hm
   rw [Heap.set_same] at h
   simp only [aa] at h
   subst h
   exact hk
  ·rw [fB hm] at h
   refine (hH.br h).keep (Same.write hH hi hb hs) (fun e' g h1 h2 => hs g ?_)
   rintro rfl
   exact hm (hH.inj m n e' e g h1 hi h2 hb)
 ·by_cases hm : m = n
  ·subst hm; rw [Heap.set_same] at h; cases h
  ·rw [fB hm] at h
   exact hH.dom m h
 ·rw [hz]
  exact hH.lt m e' b' h hb'
 ·rw [hz]
  exact hH.rlt b' h
theorem Ext.write {n b : Nat} {e : Ent} (hi : I.ι n = some e) (hb : e.blk = some b) (hs : ∀ g, g ≠ b → w'.heap[g]? = w.heap[g]?) (hz : w'.heap.size = w.heap.size) (ho : w'.os = w.os) (ht : w'.tape = w.tape) (hp : w'.output = w.output) : Ext I w I w' :=
 ⟨fun _ _ h => h, fun _ h => h, fun g _ hn => hs g (by rintro rfl; exact hn n e hi hb), fun m e' b' h hb' => .inl ⟨m, e', h, hb'⟩, fun _ h => .inl h, by omega, ho, ht, hp⟩
theorem wN {o : Oper} {t : TypeId} {x y : Operand} {b off : Nat} {v : Value} (ho : o.op = .store t x y) (hx : a.eval x = .pointer (some ⟨b, off, none⟩)) (hy : a.eval y = v) {inf : TypeInfo} (hi : P.info? t = some inf) (hz : inf.size = v.cells.size)
  (hc : ∀ j, j < v.cells.size → (w.cell? ⟨b, off + j, none⟩).isSome = true) (hf : ∀ j, j < v.cells.size → w.frozen? ⟨b, off + j, none⟩ = false) (h1 : ∀ u ∈ v.cells.toList, u.oneCell' = true) :
  (execOp a.eval o).run P w = .ok .skip (w.setCells b off v.cells.toList) := by
 have hr := run_storeCells_cells (P := P) b off v.cells.toList 0 w (fun j hj => by simpa using hc j (by simpa using hj)) (fun j hj => by simpa using hf j (by simpa using hj)) h1
 unfold execOp
 rw [ho]
 show ((do Instr.storeAt t (a.eval x) (a.eval y); pure Next.skip) : Sem Next).run P w = _
 rw [hx, hy]
 simp only [cj] at hr
 simp [Instr.storeAt, Instr.sureAddr, storeVar, Sem.run_bind, sizeOf, typeInfo, hi, hz, hr]
theorem yS {b off n : Nat} {c : Array Value} {t : TypeId} (h : w.heap[b]? = some (.cells c t (0, 0))) (hl : off + n ≤ c.size) : (∀ j, j < n → (w.cell? ⟨b, off + j, none⟩).isSome = true) ∧ (∀ j, j < n → w.frozen? ⟨b, off + j, none⟩ = false) := by
 refine ⟨fun j hj => ?_, fun j hj => ?_⟩
 ·rw [AM h, aF (by simp; omega)]
  rfl
 ·simp [World.frozen?, h]
theorem Hg {o : Oper} {t : TypeId} {x y : Operand} {r : Nat × Blk} (ho : o.op = .store t x y) (hT : TR I w T a) (hH : HR I w H) (h : po P t H (dh T x) (dh T y) = some r) : Done P o a I w H .undef (some r) := by
 have hx := dm hT x
 have hy := dm hT y
 unfold po at h
 split at h
 ·rename_i hst
  have hC := nT hy hst
  have hones := hC.ones
  have hlen := hC.len
  generalize hv : a.eval y = v at hC hones hlen
  split at h
  ·rename_i hsz
   obtain ⟨inf, hinf, hs2⟩ := gi hsz
   have hz : inf.size = v.cells.size := by rw [hs2, ← hlen]; simp
   split at h
   ·rename_i n off p hdx
    rw [hdx] at hx
    generalize hxa : a.eval x = xa at hx
    cases hx with | ptr _ _ _ b hb hp =>
    split at h
    ·rename_i cs hcs
     split at h
     ·rename_i cs' hset
      simp only [aa] at h
      subst h
      obtain ⟨b', c, ty, e1, e2, e3⟩ := hH.obj n cs hcs
      rw [hb] at e1
      simp only [aa, Ent.obj.injEq] at e1
      subst e1
      obtain ⟨k1, k2⟩ := pp hset (show ox (.off off :: p) from hp) e3 hC
      simp only [dT] at k1 k2
      have hle : off + dT p + v.cells.toList.length ≤ c.size := by simpa using k1
      obtain ⟨c', m1, m2, m3, m4, m5, m6, m7⟩ := mP v.cells.toList w b (off + dT p) c ty e2 hle
      have hth := yS e2 (off := off + dT p) (n := v.cells.size) (by simpa using hle)
      refine ⟨I, _, _, wN ho hxa hv hinf hz hth.1 hth.2 hones, Ext.write hb rfl m3 m4 m5 m6 m7, ⟨fun _ _ _ h => h⟩, ?_, rfl⟩
      refine HR.write hH hb rfl m3 m4 ⟨b, c', ty, hb, m1, ?_⟩
      rw [m2]
      exact CR.keep (Same.write hH hb rfl m3) k2
     ·cases h
    ·cases h
   ·rename_i n sz i p hdx
    rw [hdx] at hx
    generalize hxa : a.eval x = xa at hx
    cases hx with | rp _ _ _ _ b len cap hb hi hp =>
    split at h
    ·rename_i E s xs hrow
     split at h
     ·rename_i hsz'
      split at h
      ·rename_i its hset
       split at h
       ·rename_i yv hdec
        simp only [aa] at h
        subst h
        obtain ⟨g1, g2, cs, g3, g4, g5⟩ := mq hH hrow hb
        subst g1
        subst g2
        obtain ⟨q1, q2⟩ := vf g3 hi
        obtain ⟨k1, k2⟩ := pp hset hp (Sh.enc_ok (I := I) q1) hC
        obtain ⟨d1, d2, e1, e2, e3⟩ := Sh.dec_ok hdec k2
        cases e3
        rw [aK] at e1
        subst e1
        obtain ⟨r1, r2⟩ := Jq g3 hi e2
        have hql : ((cs.drop (i * s.sz)).take s.sz).length = s.sz := Sh.K_len q1
        have hmid : dP cs (i * s.sz) (dP ((cs.drop (i * s.sz)).take s.sz) (dT p) v.cells.toList) = dP cs (i * s.sz + dT p) v.cells.toList := wH (by omega) q2
        rw [hmid] at r1
        obtain ⟨gl, gr⟩ := g4
        rcases gr with ⟨e0, _⟩ | ⟨g, cp, cur, e0, _, hh, hcap, hmx, hcs, htk⟩
        ·cases e0
        ·simp only [Value.slice.injEq, aa, Addr.mk.injEq, bC, true_and] at e0
         obtain ⟨rfl, rfl⟩ := e0
         have hle0 : i * s.sz + dT p + v.cells.toList.length ≤ cs.length := by omega
         have hcl : cs.length ≤ cur.size := by rw [← htk]; simp; omega
         have hle : i * s.sz + dT p + v.cells.toList.length ≤ cur.size := by omega
         obtain ⟨c', m1, m2, m3, m4, m5, m6, m7⟩ := mP v.cells.toList w b (i * s.sz + dT p) cur E hh hle
         have hth := yS hh (off := i * s.sz + dT p) (n := v.cells.size) (by simpa using hle)
         refine ⟨I, _, _, wN ho hxa hv hinf hz hth.1 hth.2 hones, Ext.write hb rfl m3 m4 m5 m6 m7, ⟨fun _ _ _ h => h⟩, ?_, rfl⟩
         have hlset : (xs.set i yv).length = xs.length := bm
         refine HR.write hH hb rfl m3 m4 ⟨_, dP cs (i * s.sz + dT p) v.cells.toList, hb, ⟨?_, .inr ⟨b, cap, c', ?_, aq _, m1, ?_, hmx, ?_, ?_⟩⟩, ?_⟩
         ·rw [iF hle0, gl, hlset]
         ·rw [hlset]
         ·rw [hlset]; exact hcap
         ·have := congrArg List.length m2
          rw [iF (by simpa using hle)] at this
          simpa [hcs] using this
         ·rw [hlset, m2, ← htk]
          have hk : xs.length * s.sz = cs.length := gl.symm
          rw [hk] at htk ⊢
          conv => lhs; rw [← bA cs.length cur.toList, htk]
          rw [htk, nR hle0, bz (by rw [iF hle0]; exact ak _), aW (by rw [iF hle0]; exact ak _)]
         ·rw [hlset]
          exact Sh.K_keep (Same.write hH hb rfl m3).keeps r1
       ·cases h
      ·cases h
     ·cases h
    ·cases h
   ·cases h
  ·cases h
 ·cases h
end
section
variable {P : Program} {I : In} {w w' : World} {T : List DV} {a : Act} {H : Heap} {α : Type}
theorem yT : ∀ (l : List Value) (k off : Nat) (cells : Array Value), off + k + l.length ≤ cells.size → ((l.zipIdx k).foldl (fun cs (x : Value × Nat) => cs.setIfInBounds (off + x.2) x.1) cells).toList = dP cells.toList (off + k) l
 | [], k, off, cells, h => by simp [dP]
 | v :: l, k, off, cells, h => by
  simp only [aS] at h
  rw [List.zipIdx_cons, List.foldl_cons, yT l (k + 1) off _ (by simp; omega), Array.toList_setIfInBounds]
  obtain ⟨x, y, z, e, hx⟩ : ∃ (x : List Value) (y : Value) (z : List Value), cells.toList = x ++ y :: z ∧ x.length = off + k := by
   have hlt : off + k < cells.toList.length := by simp; omega
   exact ⟨cells.toList.take (off + k), cells.toList[off + k], cells.toList.drop (off + k + 1), by rw [← bI hlt, bA], by simp; omega⟩
  rw [e, ← bH, ← hx]
  have e1 : (x ++ y :: z).set x.length v = x ++ ([v] ++ z) := by simp
  have e2 : x ++ y :: z = x ++ ([y] ++ z) := by simp
  rw [e1, e2]
  have a1 := iZ (c1 := x) (c2 := [v] ++ z) (d := l) (o := 1)
  have a2 := iZ (c1 := x) (c2 := [y] ++ z) (d := v :: l) (o := 0)
  rw [a1]
  rw [cj] at a2
  rw [a2]
  simp [dP, List.drop_succ_cons, bF]
theorem yU {place : Nat → Option (Nat × Nat)} {cells : Array Value} {i off size : Nat} {v : Value} {rest : List (Nat × Value)} (hp : place i = some (off, size)) (hz : v.cells.size = size) (hl : off + v.cells.size ≤ cells.size) :
  ∃ cells', cells'.toList = dP cells.toList off v.cells.toList ∧ Instr.fill place cells ((i, v) :: rest) = Instr.fill place cells' rest := by
 refine ⟨v.cells.zipIdx.foldl (fun cs (c, j) => cs.setIfInBounds (off + j) c) cells, ?_, ?_⟩
 rotate_left
 ·rw [Instr.fill]
  have hd : ¬ (cells.size < off + size) := by omega
  simp [hp, hz, hd]
 ·have := yT v.cells.toList 0 off cells (by simpa using hl)
  rw [← Array.foldl_toList]
  simpa using this
inductive Parts (I : In) (w : World) : List (Nat × DV) → List (Nat × Value) → Prop where
 | nil : Parts I w [] []
 | cons (i : Nat) (d : DV) (v : Value) (r : List (Nat × DV)) (r' : List (Nat × Value)) (h : VR I w d v) (hr : Parts I w r r') : Parts I w ((i, d) :: r) ((i, v) :: r')
theorem AS {place : Nat → Option (List Ix × Nat)} {pm : Nat → Option (Nat × Nat)} (hpl : ∀ i p n, place i = some (p, n) → pm i = some (dT p, n) ∧ ox p) :
  ∀ {ps : List (Nat × DV)} {ps' : List (Nat × Value)} {its out : List DV} {c : Array Value}, Parts I w ps ps' → tX place ps its = some out → CR I w its c.toList → ∃ c', Instr.fill pm c ps' = some c' ∧ CR I w out c'.toList
 | _, _, its, out, c, .nil, h, hc => by
  simp only [tX, aa] at h
  subst h
  exact ⟨c, rfl, hc⟩
 | _, _, its, out, c, .cons i d v r r' hd hr, h, hc => by
  simp only [tX] at h
  split at h
  ·rename_i p n hpn
   split at hpn
   ·rename_i hst
    split at h
    ·rename_i hw
     split at h
     ·rename_i its' hset
      obtain ⟨h1, h2⟩ := hpl i p n hpn
      have hC := nT hd hst
      have hlen := hC.len
      obtain ⟨k1, k2⟩ := pp hset h2 hc hC
      have hz : v.cells.size = n := by rw [← hw, ← hlen]; simp
      obtain ⟨c', e1, e2⟩ := yU (rest := r') h1 hz (by simpa using k1)
      obtain ⟨c2, g1, g2⟩ := AS hpl hr h (c := c') (by rw [e1]; exact k2)
      exact ⟨c2, by rw [e2, g1], g2⟩
     ·cases h
    ·cases h
   ·cases hpn
  ·cases h
theorem AT (hT : TR I w T a) : ∀ ps : List (Nat × Operand), Parts I w (ps.map fun e => (e.1, dh T e.2)) (ps.map fun e => (e.1, a.eval e.2))
 | [] => .nil
 | e :: r => .cons _ _ _ _ _ (dm hT e.2) (AT hT r)
theorem E8 {t : TypeId} {it : TypeInfo} {z : Value} (hit : P.info? t = some it) (hz : it.zero = some z) (hne : lF P t = true) :
  ∃ pm : Nat → Option (Nat × Nat), (∀ i p n, rF P t i = some (p, n) → pm i = some (dT p, n) ∧ ox p) ∧ ∀ ps' c, Instr.fill pm z.cells ps' = some c → P.built t ps' = some c := by
 cases hu : P.underlying t with
 | none => simp [lF, hu] at hne
 | some d =>
  cases d with
  | struct fs =>
   have hall : fs.toList.all (fun f => (P.info? f.type).isSome) = true := by
    simpa only [lF, hu] using hne
   have hpl : ∀ l : List Field, (∀ x ∈ l, (P.info? x.type).isSome = true) → l.mapM (fun f => (P.info? f.type).map fun i => (f.offset, i.size)) = some (l.map fun f => (f.offset, dE P f.type)) := by
    intro l
    induction l with
    | nil => intro _; rfl
    | cons f l ih =>
     intro h
     obtain ⟨i, hi⟩ := Option.isSome_iff_exists.1 (h f (aM ..))
     rw [List.mapM_cons, ih (fun x hx => h x (aB _ hx)), hi]
     simp [dE, hi]
   have hpl := hpl fs.toList (aR.1 hall)
   refine ⟨((fs.toList.map fun f => (f.offset, dE P f.type)).toArray[·]?), fun i p n h => ?_, fun ps' c h => ?_⟩
   ·simp only [rF, hu, hall, if_true] at h
    split at h
    ·rename_i g hg
     simp only [aa, ah] at h
     obtain ⟨rfl, rfl⟩ := h
     refine ⟨?_, trivial⟩
     simp [hg, dT]
    ·cases h
   ·unfold Program.built
    rw [hit, hu]
    simp only [hz, hpl]
    exact h
  | array m e =>
   have hsz : ke P e (dE P e) = true := by
    simpa only [lF, hu] using hne
   obtain ⟨ie, hie, hs2⟩ := gi hsz
   refine ⟨fun i => some (i * ie.size, ie.size), fun i p n h => ?_, fun ps' c h => ?_⟩
   ·simp only [rF, hu, hsz, if_true] at h
    split at h
    ·rename_i s hs
     split at h
     ·rename_i hi
      split at h
      ·rename_i hss
       simp only [aa, ah] at h
       obtain ⟨rfl, rfl⟩ := h
       exact ⟨by simp [dT, hs2, hss], hi, trivial⟩
      ·cases h
     ·cases h
    ·simp only [aa, ah] at h
     obtain ⟨rfl, rfl⟩ := h
     exact ⟨by simp [dT, hs2], trivial⟩
   ·unfold Program.built
    rw [hit, hu]
    simp only [hz, hie]
    exact h
  | _ => simp [lF, hu] at hne
theorem Hh {o : Oper} {t : TypeId} {ps : Array (Nat × Operand)} {its out : List DV} (ho : o.op = .build t ps) (hT : TR I w T a) (hH : HR I w H) (hne : lF P t = true) (hz : nf P t = some its) (h : tX (rF P t) (ps.toList.map fun e => (e.1, dh T e.2)) its = some out) : Done P o a I w H (.agg out) none := by
 obtain ⟨it, z, hit, hz0, hC⟩ := qq (I := I) (w := w) hz
 have hex : ∃ c, P.built t (ps.toList.map fun e => (e.1, a.eval e.2)) = some c ∧ CR I w out c.toList := by
  obtain ⟨pm, h1, h2⟩ := E8 (P := P) hit hz0 hne
  obtain ⟨c, g1, g2⟩ := AS h1 (AT hT ps.toList) h hC
  exact ⟨c, h2 _ _ g1, g2⟩
 obtain ⟨c, hb, hC2⟩ := hex
 refine Done.pure (u := .agg c) hH ?_ (.agg _ _ hC2)
 unfold execOp
 rw [ho]
 refine jW (run_build w t _ c ?_)
 rw [← hb]
 congr 1
 simp
theorem CN {s : Sh} : ∀ {ds : List DV} {vs : List Value} {xs : List s.T}, LR I w ds vs → x8 s ds = some xs → xs.length = vs.length ∧ (∀ v ∈ vs, v.cells.size = s.sz) ∧ (Sh.arr xs.length s).K I.R w xs (vs.flatMap fun v => v.cells.toList)
 | _, _, xs, .nil, h => by
  simp only [x8, aa] at h
  subst h
  exact ⟨rfl, fun v hv => by (cases hv), rfl, by simp, fun i x hx => by simp at hx⟩
 | _, _, xs, .cons d r v vs hd hr, h => by
  simp only [x8] at h
  split at h
  ·rename_i y hy
   split at hy
   ·rename_i hst
    split at h
    ·rename_i l hl
     simp only [aa] at h
     subst h
     obtain ⟨h1, h2, h3, h4, h5⟩ := CN hr hl
     obtain ⟨c1, c2, e1, k1, k2⟩ := Sh.dec_ok hy (nT hd hst)
     cases k2
     rw [aK] at e1
     have hlen := Sh.K_len k1
     rw [← e1] at hlen k1
     have hsz : v.cells.size = s.sz := by simpa using hlen
     refine ⟨by simp [h1], fun u hu => ?_, rfl, ?_, fun i x hx => ?_⟩
     ·rcases aC.1 hu with rfl | hu
      ·exact hsz
      ·exact h2 u hu
     ·simp only [List.flatMap_cons, aT, hlen, h4, aS, aQ]
      omega
     ·rw [List.flatMap_cons]
      cases i with
      | zero =>
       simp only [bp, aa] at hx
       subst hx
       rw [Nat.zero_mul, cc, bz (aV hlen.symm), aW (aV hlen)]
       exact k1
      | succ i =>
       simp only [cw] at hx
       have := h5 i x hx
       rw [aQ, bF, ← bG, bW (aV hlen.symm), ci (aV hlen), bb]
       exact this
    ·cases h
   ·cases hy
  ·cases h
theorem wO {sz : Nat} : ∀ {vs : List Value} {k : Nat} {c : Array Value}, (∀ v ∈ vs, v.cells.size = sz) → (k + vs.length) * sz = c.size →
  ∃ c', Instr.fill (fun i => some (i * sz, sz)) c ((List.range' k vs.length).zip vs) = some c' ∧ c'.toList = c.toList.take (k * sz) ++ vs.flatMap fun v => v.cells.toList
 | [], k, c, _, hl => by
  refine ⟨c, rfl, ?_⟩
  simp only [ck, cj] at hl
  simp [aW, hl]
 | v :: vs, k, c, hv, hl => by
  simp only [aS] at hl
  have h1 := hv v (aM ..)
  have hle : k * sz + sz ≤ c.size := by
   rw [← hl, ← aQ]
   exact aU _ (by omega)
  obtain ⟨c1, e1, e2⟩ := yU (place := fun i => some (i * sz, sz)) (rest := (List.range' (k + 1) vs.length).zip vs) (i := k) (v := v) (cells := c) rfl h1 (by omega)
  have hc1 : c1.size = c.size := by
   have := congrArg List.length e1
   rw [iF (by simp; omega)] at this
   simpa using this
  obtain ⟨c', g1, g2⟩ := wO (k := k + 1) (c := c1) (fun u hu => hv u (aB _ hu)) (by rw [hc1, ← hl]; congr 1; omega)
  refine ⟨c', ?_, ?_⟩
  ·rw [aS, List.range'_succ, List.zip_cons_cons, e2, g1]
  ·rw [g2, e1, aQ]
   simp only [dP, List.flatMap_cons]
   have hx : (c.toList.take (k * sz)).length = k * sz := by simp; omega
   have hvl : v.cells.toList.length = sz := by simpa using h1
   rw [aL, List.take_append, hx]
   rw [aW (by omega : (c.toList.take (k * sz)).length ≤ k * sz + sz), Nat.add_sub_cancel_left, bz (by omega)]
   have h3 : v.cells.toList.take sz = v.cells.toList := aW (by omega)
   rw [h3]
   simp
theorem LR.map (hT : TR I w T a) : ∀ ps : List Operand, LR I w (ps.map (dh T)) (ps.map a.eval)
 | [] => .nil
 | e :: r => .cons _ _ _ _ (dm hT e) (LR.map hT r)
theorem z9 {o : Oper} {t e : TypeId} {s : Sh} {m n : Nat} {ps : Array (Nat × Operand)} {xs : List s.T} (ho : o.op = .buildSlice t m ps) (hT : TR I w T a) (hH : HR I w H) (hn : H n = none) (hu : P.underlying t = some (.slice e)) (hi : ps.toList.map (·.1) = List.range m) (hs : ke P e s.sz = true)
  (hx : x8 s (ps.toList.map fun e => dh T e.2) = some xs) (h1 : m * s.sz ≤ 4096) (hp : 0 < s.sz) (h2 : m = 0 ∨ (nf P e).isSome = true) : Done P o a I w H (.rw n) (some (n, .row e s xs)) := by
 obtain ⟨ie, hie, hsz⟩ := gi hs
 have hLR : LR I w (ps.toList.map fun e => dh T e.2) (ps.toList.map fun e => a.eval e.2) := by
  have := LR.map hT (ps.toList.map (·.2))
  simpa [List.map_map, Function.comp_def] using this
 obtain ⟨g1, g2, g3⟩ := CN hLR hx
 have hm : ps.toList.length = m := by
  have := congrArg List.length hi
  simpa using this
 have hxm : xs.length = m := by rw [g1]; simpa using hm
 have hparts : (ps.map fun x => (x.1, a.eval x.2)).toList = (List.range' 0 m).zip (ps.toList.map fun e => a.eval e.2) := by
  rw [cm, ← List.range_eq_range', ← hi, List.zip_map', ]
 have hmx : m ≤ m * s.sz := Nat.le_mul_of_pos_right m hp
 by_cases hz : m = 0
 ·subst hz
  have hps : ps = #[] := by
   apply Array.ext'
   simpa using bj hm
  have hxs : xs = [] := bj hxm
  subst hxs
  subst hps
  have hr : (Instr.buildSlice t 0 #[]).run P w = .ok (.slice (some ⟨w.heap.size, 0, none⟩) 0 0) (w.alloc (.cells #[] e)) := by
   simp [Instr.buildSlice, run_underlying hu, sizeOf, typeInfo, hie, newRow, Instr.fill, Array.range_zero']
  exact vg (P := P) (a := a) (o := o) (E := e) (s := s) (xs := []) (c := #[]) hH hn (by simpa using g3) (by simp) (by
   unfold execOp
   rw [ho]
   refine jW ?_
   simpa using hr)
 ·have hpos : 0 < m * s.sz := Nat.mul_pos (by omega) hp
  obtain ⟨its, hits⟩ := Option.isSome_iff_exists.1 (h2.resolve_left hz)
  obtain ⟨ie', z, hie', hz0, _⟩ := qq (I := I) (w := w) hits
  rw [hie] at hie'
  cases hie'
  have hlen : (ps.toList.map fun e => a.eval e.2).length = m := by simpa using hm
  obtain ⟨c', f1, f2⟩ := wO (sz := s.sz) (k := 0) (c := (Array.range (m * ie.size)).map (z.cells[· % z.cells.size]!)) g2 (by rw [hlen]; simp [hsz])
  rw [hlen] at f1
  have hr := run_buildSlice (P := P) w t e m (ps.map fun x => (x.1, a.eval x.2)) c' ie z hu hie hz0 (by rw [hsz]; omega) (by rw [hsz]; omega) (by rw [hparts, hsz]; rw [hsz] at f1; exact f1)
  have := vg (P := P) (a := a) (o := o) (E := e) (s := s) (xs := xs) (c := c') hH hn (by rw [f2]; simpa using g3) (by simp only [maxLen]; omega) (by
   unfold execOp
   rw [ho]
   refine jW ?_
   rw [hxm]
   exact hr)
  exact this
end
end Go.Proofs.Dk
