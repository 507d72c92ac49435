/- A part of the proofs: A reader of the program's code: what a piece of code makes of values that are known but for their nu -/
import Derived.Control
import Derived.Calls
import Derived.Laws.Sem
import Derived.Orders
import Derived.Maps.AppendAt
import Derived.Deep.MidRow
import Derived.Below
import Derived.Laws.Entries
import Derived.Deep.Quiet
import Derived.Laws.StructEq
import Derived.ChangeKeysEq
import Derived.Deep.Slices
import Derived.Laws.MakeOwn
set_option linter.unusedVariables false
set_option linter.unusedSimpArgs false
noncomputable section
namespace Go.Proofs.Dk
open Go
theorem ab : type_of% @Option.some.injEq := @Option.some.injEq
theorem ae : type_of% @Option.bind_some := @Option.bind_some
theorem af : type_of% @decide_eq_true := @decide_eq_true
theorem ag : type_of% @Int.toNat_natCast := @Int.toNat_natCast
theorem ah : type_of% @Prod.mk.injEq := @Prod.mk.injEq
theorem ai : type_of% @beq_iff_eq := @beq_iff_eq
theorem aj : type_of% @Bool.and_eq_true := @Bool.and_eq_true
theorem ak : type_of% @Nat.le_refl := @Nat.le_refl
theorem am : type_of% @Nat.lt_or_ge := @Nat.lt_or_ge
theorem ao : type_of% @List.mem_singleton := @List.mem_singleton
theorem aq : type_of% @List.getD_eq_getElem?_getD := @List.getD_eq_getElem?_getD
theorem au : type_of% @Option.some.inj := @Option.some.inj
theorem av : type_of% @decide_eq_true_eq := @decide_eq_true_eq
theorem aw : type_of% @bne_iff_ne := @bne_iff_ne
theorem ax : type_of% @List.getElem?_eq_getElem := @List.getElem?_eq_getElem
theorem ay : type_of% @Nat.zero_le := @Nat.zero_le
theorem az : type_of% @List.mem_cons_of_mem := @List.mem_cons_of_mem
theorem aA : type_of% @List.mem_append := @List.mem_append
theorem aB : type_of% @List.mem_cons := @List.mem_cons
theorem aC : type_of% @if_false := @if_false
theorem aD : type_of% @List.mem_cons_self := @List.mem_cons_self
theorem aE : type_of% @Bool.or_eq_true := @Bool.or_eq_true
theorem aF : type_of% @List.length_append := @List.length_append
theorem aG : type_of% @List.append_nil := @List.append_nil
theorem aH : type_of% @List.length_cons := @List.length_cons
theorem aI : type_of% @List.append_assoc := @List.append_assoc
theorem aJ : type_of% @Eq.trans := @Eq.trans
theorem aK : type_of% @Nat.succ_mul := @Nat.succ_mul
theorem aL : type_of% @Bool.false_eq_true := @Bool.false_eq_true
theorem aM : type_of% @List.length_set := @List.length_set
theorem aN : type_of% @List.all_eq_true := @List.all_eq_true
theorem aO : type_of% @List.getElem?_append_left := @List.getElem?_append_left
theorem aP : type_of% @List.getElem?_take := @List.getElem?_take
theorem aQ : type_of% @List.take_of_length_le := @List.take_of_length_le
theorem aR : type_of% @of_decide_eq_true := @of_decide_eq_true
theorem aS : type_of% @Nat.mul_le_mul_right := @Nat.mul_le_mul_right
theorem aT : type_of% @Nat.le_trans := @Nat.le_trans
theorem aU : type_of% @Bool.true_and := @Bool.true_and
theorem aV : type_of% @List.getElem?_drop := @List.getElem?_drop
theorem aW : type_of% @List.getElem?_append_right := @List.getElem?_append_right
theorem aX : type_of% @beq_eq_false_iff_ne := @beq_eq_false_iff_ne
theorem aY : type_of% @List.mem_append_left := @List.mem_append_left
theorem aZ : type_of% @and_true := @and_true
theorem ba : type_of% @Nat.le_of_eq := @Nat.le_of_eq
theorem bb : type_of% @Nat.lt_of_lt_of_le := @Nat.lt_of_lt_of_le
theorem bc : type_of% @beq_self_eq_true := @beq_self_eq_true
theorem bf : type_of% @List.mem_map_of_mem := @List.mem_map_of_mem
theorem bg : type_of% @decide_eq_false := @decide_eq_false
theorem bh : type_of% @List.mem_range := @List.mem_range
theorem bi : type_of% @Int.le_refl := @Int.le_refl
theorem bj : type_of% @List.drop_length := @List.drop_length
theorem bm : type_of% @List.cons.injEq := @List.cons.injEq
theorem bn : type_of% @List.eq_nil_of_length_eq_zero := @List.eq_nil_of_length_eq_zero
theorem bo : type_of% @Bool.or_false := @Bool.or_false
theorem bp : type_of% @List.nodup_cons := @List.nodup_cons
theorem bq : type_of% @Nat.sub_self := @Nat.sub_self
theorem bs : type_of% @Nat.sub_zero := @Nat.sub_zero
theorem bu : type_of% @List.getElem?_cons_zero := @List.getElem?_cons_zero
theorem bv : type_of% @List.drop_drop := @List.drop_drop
theorem bw : type_of% @Nat.zero_add := @Nat.zero_add
theorem bx : type_of% @List.drop_zero := @List.drop_zero
theorem bz : type_of% @List.map_congr_left := @List.map_congr_left
theorem bA : type_of% @List.getElem_mem := @List.getElem_mem
theorem bB : type_of% @Bool.false_and := @Bool.false_and
theorem bC : type_of% @List.take_append_of_le_length := @List.take_append_of_le_length
theorem bD : type_of% @Nat.add_assoc := @Nat.add_assoc
theorem bE : type_of% @List.take_append_drop := @List.take_append_drop
theorem bF : type_of% @Option.map_some := @Option.map_some
theorem bG : type_of% @List.mem_append_right := @List.mem_append_right
theorem bH : type_of% @Nat.add_mul := @Nat.add_mul
theorem bI : type_of% @List.nil_append := @List.nil_append
theorem bJ : type_of% @Bool.not_eq_true' := @Bool.not_eq_true'
theorem bK : type_of% @List.getElem?_replicate := @List.getElem?_replicate
theorem bN : type_of% @List.getElem?_map := @List.getElem?_map
theorem bO : type_of% @Nat.eq_of_beq_eq_true := @Nat.eq_of_beq_eq_true
theorem bP : type_of% @Bool.or_eq_false_iff := @Bool.or_eq_false_iff
theorem bQ : type_of% @Nat.succ_le_succ := @Nat.succ_le_succ
theorem bR : type_of% @Bool.eq_false_or_eq_true := @Bool.eq_false_or_eq_true
theorem bS : type_of% @ByteArray.size_append := @ByteArray.size_append
theorem bT : type_of% @Nat.add_comm := @Nat.add_comm
theorem bU : type_of% @List.length_nil := @List.length_nil
theorem bV : type_of% @List.length_take := @List.length_take
theorem bW : type_of% @Option.getD_some := @Option.getD_some
theorem bX : type_of% @Bool.false_or := @Bool.false_or
theorem bY : type_of% @Sum.elim_inr := @Sum.elim_inr
theorem bZ : type_of% @Nat.eq_zero_or_pos := @Nat.eq_zero_or_pos
theorem b6 : type_of% @List.drop_append_of_le_length := @List.drop_append_of_le_length
theorem b7 : type_of% @List.getElem?_set := @List.getElem?_set
theorem b8 : type_of% @List.all_cons := @List.all_cons
theorem b9 : type_of% @Array.getD_eq_getD_getElem? := @Array.getD_eq_getD_getElem?
theorem ca : type_of% @List.length_replicate := @List.length_replicate
theorem cb : type_of% @List.drop_eq_getElem_cons := @List.drop_eq_getElem_cons
theorem cd : type_of% @List.length_map := @List.length_map
theorem ce : type_of% @decide_eq_true_iff := @decide_eq_true_iff
theorem cf : type_of% @List.drop_of_length_le := @List.drop_of_length_le
theorem cg : type_of% @List.length_drop := @List.length_drop
theorem ch : type_of% @List.take_take := @List.take_take
theorem ci : type_of% @List.find?_some := @List.find?_some
theorem cj : type_of% @List.mem_of_find?_eq_some := @List.mem_of_find?_eq_some
theorem ck : type_of% @List.contains_eq_mem := @List.contains_eq_mem
theorem cm : type_of% @List.mem_filter := @List.mem_filter
theorem cn : type_of% @Int.mul_nonneg := @Int.mul_nonneg
theorem co : type_of% @List.getElem_of_mem := @List.getElem_of_mem
theorem cq : type_of% @List.ext_getElem? := @List.ext_getElem?
theorem cr : type_of% @Array.getElem?_toList := @Array.getElem?_toList
theorem ct : type_of% @List.getElem?_eq_none := @List.getElem?_eq_none
theorem cu : type_of% @Nat.add_zero := @Nat.add_zero
theorem cv : type_of% @Array.toList_map := @Array.toList_map
theorem cw : type_of% @Nat.min_eq_left := @Nat.min_eq_left
theorem cz : type_of% @Bool.not_true := @Bool.not_true
theorem cA : type_of% @List.map_append := @List.map_append
theorem cB : type_of% @Nat.add_sub_cancel := @Nat.add_sub_cancel
theorem cC : type_of% @ByteArray.size_extract := @ByteArray.size_extract
theorem cD : type_of% @Int.mul_le_mul_of_nonneg_right := @Int.mul_le_mul_of_nonneg_right
theorem cE : type_of% @List.mem_of_getElem? := @List.mem_of_getElem?
theorem cF : type_of% @List.getElem?_cons_succ := @List.getElem?_cons_succ
theorem cG : type_of% @List.flatMap_cons := @List.flatMap_cons
theorem cI : type_of% @Array.toList_push := @Array.toList_push
theorem cM : type_of% @List.take_add_one := @List.take_add_one
theorem cN : type_of% @Int.tdiv_eq_ediv_of_nonneg := @Int.tdiv_eq_ediv_of_nonneg
inductive Sh where
 | int (k : IntKind)
 | bool
 | str
 | pair (a b : Sh)
 | sl (e : Sh)
 | arr (n : Nat) (e : Sh)
 | fp (t : TypeId)
 deriving Inhabited
@[reducible] def Sh.T : Sh → Type
 | .int _ => Int
 | .bool => Bool
 | .str => ByteArray
 | .pair a b => a.T × b.T
 | .sl e => List e.T
 | .arr _ e => List e.T
 | .fp _ => Nat
def Sh.sz : Sh → Nat
 | .pair a b => a.sz + b.sz
 | .arr n e => n * e.sz
 | _ => 1
def Sh.dflt : (s : Sh) → s.T
 | .int _ => (0 : Int)
 | .bool => false
 | .str => ByteArray.empty
 | .pair a b => (a.dflt, b.dflt)
 | .sl _ => []
 | .arr n e => List.replicate n e.dflt
 | .fp _ => (0 : Nat)
def Sh.same : (a b : Sh) → Option (PLift (a = b))
 | .int k, .int k' => if h : k = k' then some ⟨by rw [h]⟩ else none
 | .bool, .bool => some ⟨rfl⟩
 | .str, .str => some ⟨rfl⟩
 | .pair a b, .pair a' b' => match a.same a', b.same b' with | some ⟨h⟩, some ⟨h'⟩ => some ⟨by rw [h, h']⟩ | _, _ => none
 | .sl e, .sl e' => match e.same e' with | some ⟨h⟩ => some ⟨by rw [h]⟩ | _ => none
 | .fp t, .fp t' => if h : t = t' then some ⟨by rw [h]⟩ else none
 | .arr n e, .arr n' e' => if g : n = n' then match e.same e' with | some ⟨h⟩ => some ⟨by rw [g, h]⟩ | _ => none else none
 | _, _ => none
def Sh.multi : Sh → Bool
 | .pair _ _ | .arr _ _ => true
 | _ => false
inductive Ix where
 | ix (i m sz : Nat)
 | off (k : Nat)
inductive DV where
 | undef
 | sc (v : Value)
 | ptr (n : Nat) (o : Nat) (p : List Ix)
 | rp (n sz i : Nat) (p : List Ix)
 | pi (its : List DV)
 | rw (n : Nat)
 | sl (n : Nat) (o l : Nat)
 | vs (s : Sh) (xs : List s.T)
 | fn (F : Fn) (first caps : List DV)
 | arr (s : Sh) (n : Nat) (xs : List s.T)
 | agg (cs : List DV)
 | tup (vs : List DV)
 | tab (ks : List (List Int)) (vs : List DV)
 | mh (n : Nat)
 | fp (t : TypeId) (n : Nat)
 | ps (n o : Nat) (p : List Ix) (m l : Nat)
 deriving Inhabited
def DV.wd : DV → Nat
 | .arr s n _ => n * s.sz
 | _ => 1
def DV.items : DV → List DV
 | .agg cs => cs
 | .arr s n xs => [.arr s n xs]
 | v => [v]
inductive EK where
 | any
 | val (s : Sh)
 | row (E : TypeId) (s : Sh)
@[reducible] def f9 : List EK → Type
 | [] => Unit
 | .any :: r => f9 r
 | .val s :: r => s.T × f9 r
 | .row _ s :: r => List s.T × f9 r
def EK.same : (a b : List EK) → Option (PLift (a = b))
 | [], [] => some ⟨rfl⟩
 | .any :: r, .any :: r' => match EK.same r r' with | some ⟨h⟩ => some ⟨by rw [h]⟩ | none => none
 | .val s :: r, .val s' :: r' => match s.same s', EK.same r r' with | some ⟨g⟩, some ⟨h⟩ => some ⟨by rw [g, h]⟩ | _, _ => none
 | .row E s :: r, .row E' s' :: r' => if e : E = E' then match s.same s', EK.same r r' with | some ⟨g⟩, some ⟨h⟩ => some ⟨by rw [e, g, h]⟩ | _, _ => none else none
 | _, _ => none
inductive IK where
 | any
 | val (s : Sh)
 | row (E : TypeId) (s : Sh)
 | obj (i : Nat)
 | clo (F : FuncId) (caps : List Nat)
 | agf (s : Sh) (F : FuncId)
 | tab (ks : List (List Int)) (vs : List DV)
 | fam (t : TypeId) (k : List EK)
 | inn (i o : Nat)
@[reducible] def eM : List IK → Type
 | [] => Unit
 | .val s :: r => s.T × eM r
 | .row _ s :: r => List s.T × eM r
 | .agf s _ :: r => s.T × eM r
 | .fam _ k :: r => List (f9 k) × eM r
 | _ :: r => eM r
def dz : EK → IK
 | .any => .any
 | .val s => .val s
 | .row E s => .row E s
def tf : (k : List EK) → f9 k → eM (k.map dz)
 | [], _ => ()
 | .any :: r, x => tf r x
 | .val _ :: r, x => (x.1, tf r x.2)
 | .row _ _ :: r, x => (x.1, tf r x.2)
def E3 : (k : List EK) → eM (k.map dz) → f9 k
 | [], _ => ()
 | .any :: r, x => E3 r x
 | .val _ :: r, x => (x.1, E3 r x.2)
 | .row _ _ :: r, x => (x.1, E3 r x.2)
theorem Cf : ∀ (k : List EK) (x : eM (k.map dz)), tf k (E3 k x) = x
 | [], _ => rfl
 | .any :: r, x => Cf r x
 | .val _ :: r, x => congrArg (Prod.mk x.1) (Cf r x.2)
 | .row _ _ :: r, x => congrArg (Prod.mk x.1) (Cf r x.2)
inductive Blk where
 | obj (cs : List DV)
 | row (E : TypeId) (s : Sh) (xs : List s.T)
 | mp (ks : List (List Int)) (vs : List DV)
 | fam (t : TypeId) (k : List EK) (xs : List (f9 k))
abbrev Heap := Nat → Option Blk
def Heap.set (H : Heap) (n : Nat) (b : Option Blk) : Heap := fun m => if m = n then b else H m
def Sh.enc : (s : Sh) → s.T → List DV
 | .int k, n => [.sc (.int k n)]
 | .bool, b => [.sc (.bool b)]
 | .str, s => [.sc (.string s)]
 | .pair a b, x => a.enc x.1 ++ b.enc x.2
 | .sl e, xs => [.vs e xs]
 | .arr n e, xs => [.arr e n xs]
 | .fp t, n => [.fp t n]
def Sh.val (s : Sh) (x : s.T) : DV := if s.multi then .agg (s.enc x) else ((s.enc x).head?).getD .undef
def Cn {α : Type} (f : List DV → Option (α × List DV)) : Nat → List DV → Option (List α × List DV)
 | 0, r => some ([], r)
 | n + 1, r => match f r with
  | some (x, r) => match Cn f n r with
   | some (xs, r) => some (x :: xs, r)
   | none => none
  | none => none
def Sh.dec : (s : Sh) → List DV → Option (s.T × List DV)
 | .int k, r => match r with | .sc (.int k' n) :: r => if k' = k then some (n, r) else none | _ => none
 | .bool, r => match r with | .sc (.bool b) :: r => some (b, r) | _ => none
 | .str, r => match r with | .sc (.string s) :: r => some (s, r) | _ => none
 | .pair a b, r => match a.dec r with
  | some (x, r) => match b.dec r with
   | some (y, r) => some ((x, y), r)
   | none => none
  | none => none
 | .sl e, r => match r with
  | .vs e' xs :: r => match e'.same e with | some ⟨h⟩ => some (h ▸ xs, r) | none => none
  | .sc (.slice none n _) :: r => if n = 0 then some ([], r) else none
  | _ => none
 | .fp t, r => match r with
  | .fp t' n :: r => if t' = t then some (n, r) else none
  | .sc (.pointer none) :: r => some ((0 : Nat), r)
  | _ => none
 | .arr n e, r => match r with
  | .arr e' n' xs :: r => if n' = n then match e'.same e with | some ⟨h⟩ => some (h ▸ xs, r) | none => none else none
  | r => Cn e.dec n r
def jJ : Nat → List DV → Option (List DV)
 | o, [] => if o = 0 then some [] else none
 | o, d :: r => if o = 0 then some (d :: r) else if d.wd ≤ o then jJ (o - d.wd) r else none
def Ga : Nat → List DV → List DV
 | _, [] => []
 | o, d :: r => if o = 0 then [] else d :: Ga (o - d.wd) r
def nM : Nat → List DV → Option (List DV)
 | n, [] => if n = 0 then some [] else none
 | n, d :: r => if n = 0 then some [] else if d.wd ≤ n then match nM (n - d.wd) r with | some l => some (d :: l) | none => none else none
def pC : List DV → List DV → Option (List DV)
 | old, [] => some old
 | [], _ :: _ => none
 | .arr s n _ :: r, x :: new => match (Sh.arr n s).dec (x :: new) with
  | some (ys, new) => match pC r new with | some l => some (.arr s n ys :: l) | none => none
  | none => none
 | _ :: r, x :: new => match x with
  | .arr _ _ _ => none
  | x => match pC r new with | some l => some (x :: l) | none => none
def pY : List DV → List Ix → Option (List DV)
 | its, [] => some its
 | its, .off k :: p => match jJ k its with | some its => pY its p | none => none
 | its, .ix i m sz :: p => match its with
  | .arr s m' ys :: _ => if m' = m then if s.sz = sz then pY (s.enc (ys.getD i s.dflt)) p else none else none
  | _ => none
def oj (new : List DV) : List Ix → List DV → Option (List DV)
 | [], its => pC its new
 | .off k :: p, its => match jJ k its with
  | some r => match oj new p r with | some l => some (Ga k its ++ l) | none => none
  | none => none
 | .ix i m sz :: p, its => match its with
  | .arr s m' ys :: r => if m' = m then if s.sz = sz then match oj new p (s.enc (ys.getD i s.dflt)) with
   | some its => match s.dec its with
    | some (y, []) => some (.arr s m' (ys.set i y) :: r)
    | _ => none
   | none => none else none else none
  | _ => none
def Ho (f : TypeId → Option Sh) : List TypeId → Option Sh
 | [] => none
 | [t] => f t
 | t :: r => match f t, Ho f r with | some a, some b => some (.pair a b) | _, _ => none
def gF (P : Program) : Nat → TypeId → Option Sh
 | 0, _ => none
 | n + 1, t => match P.underlying t with
  | some (.int k) => some (.int k)
  | some .bool => some .bool
  | some .string => some .str
  | some (.slice e) => match gF P n e with | some s => some (.sl s) | none => none
  | some (.array m e) => match gF P n e with | some s => some (.arr m s) | none => none
  | some (.pointer e) => some (.fp e)
  | some (.struct fs) => Ho (gF P n) (fs.toList.map (·.type))
  | _ => none
def yk (P : Program) : Nat → TypeId → List (Option (Nat × Sh))
 | 0, _ => [none]
 | n + 1, t => match P.underlying t with
  | some (.array m e) => match gF P 8 e with | some s => [some (m, s)] | none => (List.replicate m (yk P n e)).flatten
  | some (.struct fs) => fs.toList.flatMap fun f => yk P n f.type
  | _ => [none]
def pD : List (Option (Nat × Sh)) → List DV → Option (List DV)
 | [], its => match its with | [] => some [] | _ => none
 | none :: l, its => match its with
  | .arr _ _ _ :: _ => none
  | x :: r => match pD l r with | some l => some (x :: l) | none => none
  | [] => none
 | some (m, s) :: l, its => match (Sh.arr m s).dec its with
  | some (ys, r) => match pD l r with | some l => some (.arr s m ys :: l) | none => none
  | none => none
def fP (P : Program) (t : TypeId) : Bool := match P.underlying t with | some (.struct _) | some (.array _ _) => true | _ => false
def dI (P : Program) (t : TypeId) : Nat := match P.info? t with | some i => i.size | none => 0
def eW (P : Program) (t : TypeId) : Nat := match P.info? t with | some i => i.bytes | none => 0
def nB (P : Program) (t : TypeId) (its : List DV) : Option DV :=
 if fP P t then some (.agg its) else if (P.underlying t).isSome then match its with | [.arr _ _ _] => none | [v] => some v | _ => none else none
def At : Value → DV
 | .agg cs => if cs.toList.all (·.oneCell') then .agg (cs.toList.map .sc) else .undef
 | .tuple cs => if cs.toList.all (·.oneCell') then .tup (cs.toList.map .sc) else .undef
 | v => .sc v
def DV.storable : DV → Bool
 | .undef | .tup _ | .arr _ _ _ => false
 | _ => true
def nN (P : Program) (t : TypeId) : Option (List DV) := match P.info? t with
 | some i => match i.zero with | some v => if (At v).storable then pD (yk P 8 t) (At v).items else none | none => none
 | none => none
def zeroK : Sh → List Value → Option (List Value)
 | .int k, cs => match cs with | .int k' n :: r => if k' = k then if n = 0 then some r else none else none | _ => none
 | .bool, cs => match cs with | .bool b :: r => if b then none else some r | _ => none
 | .str, cs => match cs with | .string s :: r => if s = ByteArray.empty then some r else none | _ => none
 | .pair a b, cs => match zeroK a cs with | some r => zeroK b r | none => none
 | .sl _, cs => match cs with | .slice none n _ :: r => if n = 0 then some r else none | _ => none
 | .arr n e, cs => zeroN (zeroK e) n cs
 | .fp _, cs => match cs with | .pointer none :: r => some r | _ => none
where
 zeroN (f : List Value → Option (List Value)) : Nat → List Value → Option (List Value)
  | 0, cs => some cs
  | n + 1, cs => match f cs with | some r => zeroN f n r | none => none
def j9 (P : Program) (e : TypeId) (s : Sh) : Bool := match P.info? e with
 | some i => i.size == s.sz && decide (0 < s.sz) && (match i.zero with | some v => (match zeroK s v.cells.toList with | some r => r.isEmpty | none => false) | none => false)
 | none => false
def dh (T : List DV) : Operand → DV
 | .tmp t => T.getD t .undef
 | .const v => At v
 | .global _ => .undef
 | .func f => .fn (.func f) [] []
def dE (T : List DV) (d : Option Tmp) (v : DV) : List DV := match d with | some d => T.set d v | none => T
def fb {α : Type} (P : Program) : Sem α → Option α
 | .pure a => some a
 | .program k => fb P (k P)
 | _ => none
inductive Sub where
 | none
 | vs (s : Sh) (xs : List s.T)
def Sub.whole : Sub → DV
 | .none => .undef
 | .vs s xs => .vs s xs
def Sub.part (o l : Nat) : Sub → DV
 | .none => .undef
 | .vs s xs => .vs s ((xs.drop o).take l)
mutual
def DV.sub (n : Nat) (g : Sub) : DV → DV
 | .rp m sz i p => if m = n then .undef else .rp m sz i p
 | .rw m => if m = n then g.whole else .rw m
 | .sl m o l => if m = n then g.part o l else .sl m o l
 | .fn F a b => .fn F (d9 n g a) (d9 n g b)
 | .agg cs => .agg (d9 n g cs)
 | .tup cs => .tup (d9 n g cs)
 | .tab ks vs => .tab ks (d9 n g vs)
 | v => v
def d9 (n : Nat) (g : Sub) : List DV → List DV
 | [] => []
 | d :: r => d.sub n g :: d9 n g r
end
def Blk.sub (n : Nat) (g : Sub) : Blk → Blk
 | .obj cs => .obj (d9 n g cs)
 | .mp ks vs => .mp ks (d9 n g vs)
 | b => b
def Heap.sub (n : Nat) (g : Sub) (H : Heap) : Heap := fun m => if m = n then none else match H m with | some b => some (b.sub n g) | none => none
mutual
def DV.bare : DV → DV
 | .rp _ _ _ _ => .undef
 | .rw _ => .undef
 | .sl _ _ _ => .undef
 | .fn F a b => .fn F (iG a) (iG b)
 | .agg cs => .agg (iG cs)
 | .tup cs => .tup (iG cs)
 | .tab ks vs => .tab ks (iG vs)
 | v => v
def iG : List DV → List DV
 | [] => []
 | d :: r => d.bare :: iG r
end
def yl : DV → List Nat
 | .rw n => [n]
 | .sl n _ _ => [n]
 | _ => []
def Nd : DV → List Nat
 | .agg cs => cs.flatMap yl
 | .tup cs => cs.flatMap yl
 | d => yl d
def kq : List Nat → List DV → List DV → Heap → List DV × List DV × Heap
 | [], A, T, H => (A, T, H)
 | n :: r, A, T, H => match H n with
  | some (.row _ s xs) => kq r (d9 n (.vs s xs) A) (d9 n (.vs s xs) T) (H.sub n (.vs s xs))
  | _ => kq r A T H
def kc (A T : List DV) (H : Heap) : List DV × List DV × Heap := kq (A.flatMap Nd) A T H
def ln (H : Heap) : Nat → Nat → Nat
 | 0, b => b
 | k + 1, b => match H b with | none => b | some _ => ln H k (b + 1)
def base (d : Nat) (t : Option Tmp) : Nat := 1000000 + (d * 1000 + t.getD 0) * 64
def ez (H : Heap) (s : Sh) : DV → Option (List s.T)
 | .vs s' xs => match s'.same s with | some ⟨h⟩ => some (h ▸ xs) | none => none
 | .sc (.slice none n _) => if n = 0 then some [] else none
 | .rw n => match H n with | some (.row _ s' xs) => (match s'.same s with | some ⟨h⟩ => some (h ▸ xs) | none => none) | _ => none
 | .sl n o l => match H n with | some (.row _ s' xs) => (match s'.same s with | some ⟨h⟩ => some ((h ▸ xs : List s.T).drop o |>.take l) | none => none) | _ => none
 | .ps n o p m l => match H n with | some (.obj cs) => (match pY cs (.off o :: p) with | some (.arr s' m' xs :: _) => if m' = m then (match s'.same s with | some ⟨h⟩ => some ((h ▸ xs : List s.T).take l) | none => none) else none | _ => none) | _ => none
 | _ => none
def zL (P : Program) (t : TypeId) (H : Heap) (x : DV) : Option Nat := match P.underlying t with
 | some .string => match x with | .sc (.string s) => some s.size | _ => none
 | some (.slice _) => match x with
  | .sc (.slice none n _) => if n = 0 then some 0 else none
  | .vs _ xs => some xs.length
  | .rw n => match H n with | some (.row _ _ xs) => some xs.length | _ => none
  | .sl _ _ l => some l
  | .ps _ _ _ _ l => some l
  | _ => none
 | some (.array n _) => some n
 | _ => none
@[reducible] def ol : List (List IK) → Type
 | [] => Unit
 | k :: r => eM k × ol r
@[reducible] def Sx (n : Nat) (l : List IK) : List IK := l ++ List.replicate (n - l.length) .any
structure Tmpl where
 ks : List IK
 os : List (List IK)
@[reducible] def Tmpl.Ty (t : Tmpl) : Type := eM t.ks × ol t.os
structure Nam where
 o : Nat → Nat
 r : Nat → Nat
def ip (ρ : Nam) : Nat → (ks : List IK) → eM ks → List DV
 | _, [], _ => []
 | c, .any :: r, x => .undef :: ip ρ (c + 1) r x
 | c, .val s :: r, x => s.val x.1 :: ip ρ (c + 1) r x.2
 | c, .row _ _ :: r, x => .rw (ρ.r c) :: ip ρ (c + 1) r x.2
 | c, .agf s F :: r, x => .agg (s.enc x.1 ++ [.fn (.func F) [] []]) :: ip ρ (c + 1) r x.2
 | c, .obj i :: r, x => .ptr (ρ.o i) 0 [] :: ip ρ (c + 1) r x
 | c, .inn i o :: r, x => .ptr (ρ.o i) o [] :: ip ρ (c + 1) r x
 | c, .clo F is :: r, x => .fn (.func F) [] (is.map fun i => .ptr (ρ.o i) 0 []) :: ip ρ (c + 1) r x
 | c, .tab ks vs :: r, x => .tab ks vs :: ip ρ (c + 1) r x
 | c, .fam _ _ :: r, x => .undef :: ip ρ (c + 1) r x.2
def iq (ρ : Nam) : Nat → (ks : List IK) → eM ks → List DV
 | _, [], _ => []
 | c, .any :: r, x => .undef :: iq ρ (c + 1) r x
 | c, .val s :: r, x => s.enc x.1 ++ iq ρ (c + 1) r x.2
 | c, .row _ _ :: r, x => .rw (ρ.r c) :: iq ρ (c + 1) r x.2
 | c, .agf s F :: r, x => (s.enc x.1 ++ [.fn (.func F) [] []]) ++ iq ρ (c + 1) r x.2
 | c, .obj i :: r, x => .ptr (ρ.o i) 0 [] :: iq ρ (c + 1) r x
 | c, .inn _ _ :: r, x => .undef :: iq ρ (c + 1) r x
 | c, .clo F is :: r, x => .fn (.func F) [] (is.map fun i => .ptr (ρ.o i) 0 []) :: iq ρ (c + 1) r x
 | c, .tab ks vs :: r, x => .tab ks vs :: iq ρ (c + 1) r x
 | c, .fam _ _ :: r, x => .undef :: iq ρ (c + 1) r x.2
def el (ρ : Nam) : Nat → (ks : List IK) → eM ks → Heap → Heap
 | _, [], _, H => H
 | c, .val _ :: r, x, H => el ρ (c + 1) r x.2 H
 | c, .agf _ _ :: r, x, H => el ρ (c + 1) r x.2 H
 | c, .row E s :: r, x, H => el ρ (c + 1) r x.2 (H.set (ρ.r c) (some (.row E s x.1)))
 | c, .any :: r, x, H => el ρ (c + 1) r x H
 | c, .obj _ :: r, x, H => el ρ (c + 1) r x H
 | c, .inn _ _ :: r, x, H => el ρ (c + 1) r x H
 | c, .clo _ _ :: r, x, H => el ρ (c + 1) r x H
 | c, .tab _ _ :: r, x, H => el ρ (c + 1) r x H
 | c, .fam _ _ :: r, x, H => el ρ (c + 1) r x.2 H
def qT (ρ : Nam) (c : Nat) : (k : List IK) → eM k → Blk
 | [.fam t k], x => .fam t k x.1
 | k, x => .obj (iq ρ c k x)
def sG (ρ : Nam) : Nat → (os : List (List IK)) → ol os → Heap → Heap
 | _, [], _, H => H
 | i, k :: r, x, H => sG ρ (i + 1) r x.2 (el ρ (1000 * (i + 1)) k x.1 (H.set (ρ.o i) (some (qT ρ (1000 * (i + 1)) k x.1))))
def Tmpl.T (t : Tmpl) (ρ : Nam) (x : t.Ty) : List DV := ip ρ 0 t.ks x.1
def Tmpl.H (t : Tmpl) (ρ : Nam) (x : t.Ty) (H : Heap) : Heap := el ρ 0 t.ks x.1 (sG ρ 0 t.os x.2 H)
structure Met where
 σ : List (Nat × Nat)
 u : List Nat
def Met.get (m : Met) (i : Nat) : Option Nat := (m.σ.find? fun e => e.1 == i).map (·.2)
def ja (H : Heap) (E : TypeId) (s : Sh) : DV → Option (List s.T × List Nat)
 | .sc (.slice none n c) => if n = 0 then if c = 0 then some ([], []) else none else none
 | .rw n => match H n with
  | some (.row E' s' xs) => if E' = E then match s'.same s with | some ⟨h⟩ => some (h ▸ xs, [n]) | none => none else none
  | _ => none
 | .sl n o l => match H n with
  | some (.row E' s' xs) => if o = 0 then if E' = E then match s'.same s with | some ⟨h⟩ => some ((h ▸ xs : List s.T).take l, [n]) | none => none else none else none
  | _ => none
 | _ => none
def pZ : List Nat → List DV → Met → Option Met
 | [], l, m => if l.isEmpty then some m else none
 | i :: r, l, m => match l with
  | .ptr n 0 [] :: l => match m.get i with
   | some n' => if n = n' then pZ r l m else none
   | none => pZ r l ⟨(i, n) :: m.σ, m.u⟩
  | _ => none
def ym (s : Sh) (d : DV) : Option s.T := if s.multi then (match d with
  | .agg cs => match s.dec cs with | some (x, []) => some x | _ => none
  | _ => none)
 else match s.dec [d] with | some (x, []) => some x | _ => none
def dZ (H : Heap) : (ks : List IK) → List DV → Met → Option (eM ks × Met)
 | [], T, m => match T with
  | [] => some ((), m)
  | _ => none
 | .any :: r, T, m => match T with
  | _ :: T => dZ H r T m
  | [] => none
 | .val s :: r, T, m => match T with
  | d :: T => match ym s d with
   | some x => match dZ H r T m with | some (y, m) => some ((x, y), m) | none => none
   | none => none
  | [] => none
 | .agf s F :: r, T, m => match T with
  | .agg cs :: T => match s.dec cs with
   | some (x, [.fn (.func F') [] []]) => if F' = F then match dZ H r T m with | some (y, m) => some ((x, y), m) | none => none else none
   | _ => none
  | _ => none
 | .row E s :: r, T, m => match T with
  | d :: T => match ja H E s d with
   | some (xs, u) => match dZ H r T ⟨m.σ, u ++ m.u⟩ with | some (y, m) => some ((xs, y), m) | none => none
   | none => none
  | [] => none
 | .obj i :: r, T, m => match T with
  | .ptr n 0 [] :: T => match m.get i with
   | some n' => if n = n' then dZ H r T m else none
   | none => dZ H r T ⟨(i, n) :: m.σ, m.u⟩
  | _ => none
 | .inn i o :: r, T, m => match T with
  | .ptr n o' [] :: T => if o' = o then match m.get i with
   | some n' => if n = n' then dZ H r T m else none
   | none => dZ H r T ⟨(i, n) :: m.σ, m.u⟩ else none
  | _ => none
 | .clo F is :: r, T, m => match T with
  | .fn (.func F') [] caps :: T => if F' = F then match pZ is caps m with | some m => dZ H r T m | none => none else none
  | _ => none
 | .tab _ _ :: _, _, _ => none
 | .fam _ _ :: _, _, _ => none
def fJ (H : Heap) : (ks : List IK) → List DV → Met → Option (eM ks × Met)
 | [], T, m => match T with
  | [] => some ((), m)
  | _ => none
 | .any :: r, T, m => match T with
  | .arr _ _ _ :: _ => none
  | _ :: T => fJ H r T m
  | [] => none
 | .val s :: r, T, m => match s.dec T with
  | some (x, T) => match fJ H r T m with | some (y, m) => some ((x, y), m) | none => none
  | none => none
 | .agf s F :: r, T, m => match s.dec T with
  | some (x, .fn (.func F') [] [] :: T) => if F' = F then match fJ H r T m with | some (y, m) => some ((x, y), m) | none => none else none
  | _ => none
 | .row E s :: r, T, m => match T with
  | d :: T => match ja H E s d with
   | some (xs, u) => match fJ H r T ⟨m.σ, u ++ m.u⟩ with | some (y, m) => some ((xs, y), m) | none => none
   | none => none
  | [] => none
 | .obj i :: r, T, m => match T with
  | .ptr n 0 [] :: T => match m.get i with
   | some n' => if n = n' then fJ H r T m else none
   | none => fJ H r T ⟨(i, n) :: m.σ, m.u⟩
  | _ => none
 | .clo F is :: r, T, m => match T with
  | .fn (.func F') [] caps :: T => if F' = F then match pZ is caps m with | some m => fJ H r T m | none => none else none
  | _ => none
 | .tab _ _ :: _, _, _ => none
 | .fam _ _ :: _, _, _ => none
 | .inn _ _ :: _, _, _ => none
def vy (t : TypeId) (k : List EK) : Option Blk → Option (List (f9 k))
 | some (.fam t' k' xs) => if t' = t then match EK.same k' k with | some ⟨h⟩ => some (h ▸ xs) | none => none else none
 | _ => none
def tg (H : Heap) (i : Nat) : (k : List IK) → Met → Option (eM k × Met)
 | [.fam t k], m => match m.get i with
  | some n => match vy t k (H n) with
   | some xs => some ((xs, ()), m)
   | none => none
  | none => match vy t k (H i) with
   | some xs => some ((xs, ()), ⟨(i, i) :: m.σ, m.u⟩)
   | none => none
 | k, m => match m.get i with
  | some n => match H n with
   | some (.obj cs) => fJ H k cs m
   | _ => none
  | none => none
def om (H : Heap) : Nat → (os : List (List IK)) → Met → Option (ol os × Met)
 | _, [], m => some ((), m)
 | i, k :: r, m => match tg H i k m with
  | some (x, m) => match om H (i + 1) r m with | some (y, m) => some ((x, y), m) | none => none
  | none => none
def jn : List Nat → Bool
 | [] => true
 | a :: r => !r.contains a && jn r
def kr (n : Nat) : Met := ⟨(List.range n).map fun i => (i, i), []⟩
def Tmpl.pr (t : Tmpl) (m0 : Met) (T : List DV) (H : Heap) : Option (t.Ty × Met) := match dZ H t.ks T m0 with
 | some (x, m) => match om H 0 t.os m with
  | some (y, m) => if jn (m.u ++ m.σ.map (·.2)) && jn (m.σ.map (·.1)) && m.σ.all (fun e => decide (e.1 < t.os.length)) then some ((x, y), m) else none
  | none => none
 | none => none
def de (ρ : Nam) : Nat → List IK → List Nat
 | _, [] => []
 | c, .row _ _ :: r => ρ.r c :: de ρ (c + 1) r
 | c, _ :: r => de ρ (c + 1) r
def gb (ρ : Nam) : Nat → List (List IK) → List Nat
 | _, [] => []
 | i, k :: r => ρ.o i :: (de ρ (1000 * (i + 1)) k ++ gb ρ (i + 1) r)
def Tmpl.names (t : Tmpl) (ρ : Nam) : List Nat := de ρ 0 t.ks ++ gb ρ 0 t.os
def Tmpl.free (t : Tmpl) (ρ : Nam) (H : Heap) : Bool := jn (t.names ρ) && (t.names ρ).all fun n => (H n).isNone
inductive Ex where
 | norm
 | exit (id : Nat)
 | goto (l : Nat)
 | ret
@[reducible] def pd : List (Ex × Tmpl) → Type
 | [] => Empty
 | [e] => e.2.Ty
 | e :: r => e.2.Ty ⊕ pd r
def qU {α : Type} : (os : List (Ex × Tmpl)) → pd os → (Ex → (t : Tmpl) → t.Ty → Option α) → Option α
 | [], _, _ => none
 | [e], y, k => k e.1 e.2 y
 | e :: f :: r, y, k => match y with
  | .inl y => k e.1 e.2 y
  | .inr y => qU (f :: r) y k
structure Loop where
 tin : Tmpl
 outs : List (Ex × Tmpl)
 X : Type
 into : X → tin.Ty
 back : tin.Ty → X
 R : Type
 out : R → pd outs
 inn : pd outs → R
 fn : X → Option R
structure FS where
 tin : Tmpl
 tout : Tmpl
 R : Type
 out : R → tout.Ty
 inn : tout.Ty → R
 fn : tin.Ty → Option R
def gh : List IK → Bool
 | [] => true
 | .row _ _ :: _ | .obj _ :: _ | .clo _ (_ :: _) :: _ | .fam _ _ :: _ | .inn _ _ :: _ => false
 | _ :: r => gh r
def FS.pure (S : FS) : Bool := gh S.tin.ks && S.tin.os.isEmpty && gh S.tout.ks && S.tout.os.isEmpty
structure QR where
 tin : Tmpl
 E : TypeId
 s : Sh
 fn : tin.Ty → Option (List s.T)
structure Cx where
 P : Program
 loops : FuncId → Nat → Option Loop
 specs : FuncId → List FS
 tabs : FuncId → Option (Nat × List (List Int) × List FuncId)
 qs : FuncId → List FS
 qr : FuncId → List QR
def mY (H : Heap) (b : Nat) (m : Met) : Nam := ⟨fun i => match m.get i with | some n => n | none => ln H 63 (b + 64 * (400000 + i)), fun c => ln H 63 (b + 64 * c)⟩
def Heap.away (m : Met) (H : Heap) : Heap := fun n => if m.σ.any (fun e => e.2 == n) then none else H n
def dv (u : List Nat) (H : Heap) : Heap := u.foldl (fun H n => H.sub n .none) H
def dJ (u : List Nat) (T : List DV) : List DV := u.foldl (fun T n => d9 n .none T) T
def gn : Code → Nat
 | .region id _ _ => id
 | .seq a b => match a with | .skip | .label _ => gn b | a => gn a
 | .block _ c | .loop c | .scope c => gn c
 | _ => 0
def nam0 : Nam := ⟨fun i => i, fun c => 100000 + c⟩
def fc (xs : List Int) : ByteArray := ⟨(xs.map fun n => UInt8.ofNat n.toNat).toArray⟩
def vz (s : ByteArray) : List Int := s.data.toList.map fun b => (b.toNat : Int)
def bt (s : ByteArray) (i : Int) : Int := (s.data.toList.getD i.toNat 0).toNat
def Sh.eqT : (s : Sh) → s.T → s.T → Bool
 | .int _, (a : Int), b => a == b
 | .bool, (a : Bool), b => a == b
 | .str, (a : ByteArray), b => a.toList == b.toList
 | .pair x y, a, b => x.eqT a.1 b.1 && y.eqT a.2 b.2
 | .sl _, _, _ => false
 | .fp _, _, _ => false
 | .arr n e, a, b => (List.range n).all fun i => e.eqT (a.getD i e.dflt) (b.getD i e.dflt)
def wY (f : TypeId → Sh → Bool) (P : Program) : Nat → List Field → Sh → Bool
 | _, [], _ => false
 | o, [g], s => g.name != "_" && g.offset == o && f g.type s
 | o, g :: r, .pair a b => g.name != "_" && g.offset == o && f g.type a && wY f P (o + a.sz) r b
 | _, _, _ => false
def pE (P : Program) : Nat → TypeId → Sh → Bool
 | 0, _, _ => false
 | d + 1, t, s => dI P t == s.sz && decide (0 < s.sz) && match P.underlying t, s with
  | some (.int k), .int k' => k == k'
  | some .bool, .bool => true
  | some .string, .str => true
  | some (.struct fs), s => !P.stoodInHeld t && wY (pE P d) P 0 fs.toList s
  | some (.array m e), .arr n s => m == n && pE P d e s
  | _, _ => false
def L5 (P : Program) (t : TypeId) (a b : List DV) : Option Bool := match gF P 8 t with
 | some s => if fP P t && pE P 8 t s && !P.eqGuardType P.depth t then match s.dec a, s.dec b with
  | some (x, []), some (y, []) => some (s.eqT x y)
  | _, _ => none else none
 | none => none
section
variable {α : Type} (P : Program)
def i7 (e : TypeId) (sz : Nat) : Bool := match P.info? e with
 | some i => i.size == sz
 | none => false
def zM (op : BinOp) (t : TypeId) (a b : DV) (k : DV → Option α) : Option α :=
 match a, b with
 | .sc (.int ka a), .sc (.int kb b) => match op with
  | .quo => if ka = kb then if b == 0 then none else k (.sc (.int ka (ka.wrap (a.tdiv b)))) else none
  | .rem => if ka = kb then if b == 0 then none else k (.sc (.int ka (a.tmod b))) else none
  | .shl => if decide (b < 0) then none else k (.sc (.int ka (ka.wrap (a * 2 ^ (min b.toNat ka.bits)))))
  | .shr => if decide (b < 0) then none else k (.sc (.int ka (a.fdiv (2 ^ (min b.toNat ka.bits)))))
  | op => match fb P (binOp op t (.int ka a) (.int kb b)) with | some v => k (.sc v) | none => none
 | .sc (.string a), .sc (.string b) => match op with
  | .add => if decide (a.size + b.size ≤ 140737488351232) then k (.sc (.string (a ++ b))) else none
  | op => match fb P (Op.stringOp op a b) with | some v => k (.sc v) | none => none
 | .sc (.bool a), .sc (.bool b) => match op with
  | .eql => match P.underlying t with | some .bool => k (.sc (.bool (a == b))) | _ => none
  | .neq => match P.underlying t with | some .bool => k (.sc (.bool (a != b))) | _ => none
  | _ => none
 | .agg xs, .agg ys => match op with
  | .eql => match L5 P t xs ys with | some c => k (.sc (.bool c)) | none => none
  | .neq => match L5 P t xs ys with | some c => k (.sc (.bool !c)) | none => none
  | _ => none
 | .ptr _ _ _, .sc (.pointer none) => match op with
  | .eql => match P.underlying t with | some (.pointer _) => k (.sc (.bool false)) | _ => none
  | .neq => match P.underlying t with | some (.pointer _) => k (.sc (.bool true)) | _ => none
  | _ => none
 | .rp _ _ _ _, .sc (.pointer none) => match op with
  | .eql => match P.underlying t with | some (.pointer _) => k (.sc (.bool false)) | _ => none
  | .neq => match P.underlying t with | some (.pointer _) => k (.sc (.bool true)) | _ => none
  | _ => none
 | .pi _, .sc (.pointer none) => match op with
  | .eql => match P.underlying t with | some (.pointer _) => k (.sc (.bool false)) | _ => none
  | .neq => match P.underlying t with | some (.pointer _) => k (.sc (.bool true)) | _ => none
  | _ => none
 | .fp _ n, .sc (.pointer none) => match op with
  | .eql => match P.underlying t with | some (.pointer _) => k (.sc (.bool (Nat.beq n 0))) | _ => none
  | .neq => match P.underlying t with | some (.pointer _) => k (.sc (.bool (!Nat.beq n 0))) | _ => none
  | _ => none
 | .sc (.pointer none), .sc (.pointer none) => match op with
  | .eql => match P.underlying t with | some (.pointer _) => k (.sc (.bool true)) | _ => none
  | .neq => match P.underlying t with | some (.pointer _) => k (.sc (.bool false)) | _ => none
  | _ => none
 | _, _ => none
def fQ (i : Int) (n : Nat) : Bool := decide (0 ≤ i) && decide (i < (n : Int))
def th (t : TypeId) (sz : Nat) : Bool := match P.underlying t with
 | some (.slice e) => i7 P e sz
 | _ => false
def iH (t : TypeId) (H : Heap) (x : DV) (i : Int) (k : DV → Option α) : Option α := match x with
 | .vs s xs => if th P t s.sz then if fQ i xs.length then k (.pi (s.enc (xs.getD i.toNat s.dflt))) else none else none
 | .rw n => match H n with
  | some (.row _ s xs) => if th P t s.sz then if fQ i xs.length then k (.rp n s.sz i.toNat []) else none else none
  | _ => none
 | .sl n o l => match H n with
  | some (.row _ s _) => if th P t s.sz then if fQ i l then k (.rp n s.sz (o + i.toNat) []) else none else none
  | _ => none
 | .ptr n o p => match P.underlying t with
  | some (.array m e) => match H n with
   | some (.obj cs) => match jJ o cs with
    | some its => match pY its p with
     | some (.arr s m' _ :: _) => if m' = m then if i7 P e s.sz then if fQ i m then k (.ptr n o (p ++ [.ix i.toNat m s.sz])) else none else none else none
     | some _ => match p with | [] => if i7 P e (dI P e) then if fQ i m then k (.ptr n (o + i.toNat * dI P e) []) else none else none | _ => none
     | none => none
    | none => none
   | _ => none
  | _ => none
 | .pi its => match P.underlying t with
  | some (.array m e) => match its with
   | .arr s m' ys :: _ => if m' = m then if i7 P e s.sz then if fQ i m then k (.pi (s.enc (ys.getD i.toNat s.dflt))) else none else none else none
   | _ => none
  | _ => none
 | _ => none
def p6 (t : TypeId) (x : DV) (i : Int) (k : DV → Option α) : Option α := match x with
 | .sc (.string s) => match P.underlying t with | some .string => if fQ i s.size then k (.sc (.int .u8 (bt s i))) else none | _ => none
 | .agg cs => match P.underlying t with
  | some (.array m e) => match cs with
   | [.arr s m' ys] => if m' = m then if dI P e = s.sz then if fQ i m then match nB P e (s.enc (ys.getD i.toNat s.dflt)) with | some v => k v | none => none else none else none else none
   | cs => if fQ i m then match jJ (i.toNat * dI P e) cs with
    | some r => match nM (dI P e) r with
     | some its => match nB P e its with | some v => k v | none => none
     | none => none
    | none => none else none
  | _ => none
 | _ => none
def lp (t : TypeId) (H : Heap) : DV → Option DV
 | .ptr n o p => match H n with
  | some (.obj cs) => match pY cs (.off o :: p) with
   | some its => match nM (dI P t) its with | some its => nB P t its | none => none
   | none => none
  | _ => none
 | .rp n sz i p => match H n with
  | some (.row _ s xs) => if s.sz = sz then match pY (s.enc (xs.getD i s.dflt)) p with
   | some its => match nM (dI P t) its with | some its => nB P t its | none => none
   | none => none else none
  | _ => none
 | .pi its => match nM (dI P t) its with | some its => nB P t its | none => none
 | _ => none
def p7 : List DV → Nat
 | [] => 0
 | d :: r => d.wd + p7 r
def p8 (t : TypeId) (H : Heap) (a : DV) (v : DV) : Option (Nat × Blk) :=
 if v.storable = true then if i7 P t (p7 v.items) then match a with
 | .ptr n o p => match H n with
  | some (.obj cs) => match oj v.items (.off o :: p) cs with
   | some cs => some (n, .obj cs)
   | none => none
  | _ => none
 | .rp n sz i p => match H n with
  | some (.row E s xs) => if s.sz = sz then match oj v.items p (s.enc (xs.getD i s.dflt)) with
   | some its => match s.dec its with
    | some (y, []) => some (n, .row E s (xs.set i y))
    | _ => none
   | none => none else none
  | _ => none
 | _ => none else none else none
def vA (t : TypeId) (f : Nat) : Option (Nat × TypeId) := match P.underlying t with
 | some (.struct fs) => match fs[f]? with | some g => if dI P g.type = 0 then none else some (g.offset, g.type) | none => none
 | _ => none
def qV (t : TypeId) (x : DV) (f : Nat) : Option DV := match vA P t f with
 | some (o, _) => match x with
  | .ptr n o' p => match p with | [] => some (.ptr n (o' + o) []) | p => some (.ptr n o' (p ++ [.off o]))
  | .rp n sz i p => some (.rp n sz i (p ++ [.off o]))
  | .pi its => match jJ o its with | some its => some (.pi its) | none => none
  | _ => none
 | none => none
def Co (t : TypeId) (x : DV) (f : Nat) : Option DV := match vA P t f with
 | some (o, u) => match x with
  | .agg cs => match jJ o cs with
   | some r => match nM (dI P u) r with | some its => nB P u its | none => none
   | none => none
  | _ => none
 | none => none
def vB (place : Nat → Option (List Ix × Nat)) : List (Nat × DV) → List DV → Option (List DV)
 | [], cs => some cs
 | (i, v) :: r, cs => match (if v.storable then place i else none) with
  | some (p, n) => if p7 v.items = n then match oj v.items p cs with | some cs => vB place r cs | none => none else none
  | none => none
def ti (t : TypeId) (i : Nat) : Option (List Ix × Nat) := match P.underlying t with
 | some (.struct fs) => if fs.toList.all (fun f => (P.info? f.type).isSome) then match fs[i]? with | some g => some ([.off g.offset], dI P g.type) | none => none else none
 | some (.array m e) => if i7 P e (dI P e) then match gF P 8 e with
  | some s => if i < m then if s.sz = dI P e then some ([.ix i m s.sz], s.sz) else none else none
  | none => some ([.off (i * dI P e)], dI P e) else none
 | _ => none
def l8 (t : TypeId) : Bool := match P.underlying t with
 | some (.struct fs) => fs.toList.all fun f => (P.info? f.type).isSome
 | some (.array _ e) => i7 P e (dI P e)
 | _ => false
def zN (s : Sh) : List DV → Option (List s.T)
 | [] => some []
 | v :: r => match (if v.storable then s.dec v.items else none) with
  | some (y, []) => match zN s r with | some l => some (y :: l) | none => none
  | _ => none
def lq (x : DV) (n : Nat) (k : Nat → Option α) : Option α := match x with
 | .sc (.int _ i) => if decide (0 ≤ i) && decide (i ≤ (n : Int)) then k i.toNat else none
 | _ => none
def tj (lo : Option DV) (k : Nat → Nat → Option α) (h : Nat) : Option α := match lo with
 | some v => lq v h fun l => k l h
 | none => k 0 h
def fI (n : Nat) (lo hi : Option DV) (k : Nat → Nat → Option α) : Option α := match hi with
 | some v => lq v n (tj lo k)
 | none => tj lo k n
def lr (t : TypeId) (H : Heap) (x : DV) (lo hi mx : Option DV) (k : DV → Option α) : Option α := match mx with
 | some _ => none
 | none => match P.underlying t, x with
  | some .string, .sc (.string s) => fI s.size lo hi fun l h => k (.sc (.string (s.extract l h)))
  | some (.slice e), .vs s xs => if i7 P e s.sz then fI xs.length lo hi fun l h => k (.vs s ((xs.take h).drop l)) else none
  | some (.array m e), .ptr n o p => (match lo with
   | some _ => none
   | none => match H n with
    | some (.obj cs) => (match pY cs (.off o :: p) with
     | some (.arr s m' _ :: _) => if m' = m then if i7 P e s.sz then fI m none hi fun l h => if l = 0 then k (.ps n o p m h) else none else none else none
     | _ => none)
    | _ => none)
  | some (.slice e), .rw n => match H n with
   | some (.row E s xs) => if E = e then if i7 P e s.sz then fI xs.length lo hi fun l h => k (.sl n l (h - l)) else none else none
   | _ => none
  | some (.slice e), .sl n o m => match H n with
   | some (.row E s _) => if E = e then if i7 P e s.sz then fI m lo hi fun l h => k (.sl n (o + l) (h - l)) else none else none
   | _ => none
  | _, _ => none
def pe (c a b : DV) (k : DV → Option α) : Option α := match c with
 | .sc (.bool t) => match a, b with
  | .sc (.bool x), .sc (.bool y) => k (.sc (.bool (if t then x else y)))
  | .sc (.int ka x), .sc (.int kb y) => if ka = kb then k (.sc (.int ka (if t then x else y))) else none
  | a, b => if t then k a else k b
 | _ => none
def Cp (k : IntKind) : Int → List DV → Option DV
 | x, [] => some (.sc (.int k x))
 | x, d :: r => match d with
  | .sc (.int k' y) => if k' = k then Cp k (if y < x then y else x) r else none
  | _ => none
def Cq (k : IntKind) : Int → List DV → Option DV
 | x, [] => some (.sc (.int k x))
 | x, d :: r => match d with
  | .sc (.int k' y) => if k' = k then Cq k (if y > x then y else x) r else none
  | _ => none
abbrev fL := Option (Nat × Blk)
def Heap.act (H : Heap) : fL → Heap
 | none => H
 | some (n, b) => H.set n (some b)
def gc (d : Nat) (o : Oper) (H : Heap) (b : Blk) (v : Nat → DV) (k : DV → fL → Option α) : Option α :=
 let n := ln H 63 (base d o.dst)
 match H n with
 | some _ => none
 | none => k (v n) (some (n, b))
def iU (d : Nat) (o : Oper) (E : TypeId) (s : Sh) (x : DV) (ys : List s.T) (T : List DV) (H : Heap) (k : List DV → Heap → Option α) : Option α := match x with
 | .sc (.slice none z c) => if decide (z = 0) && decide (c = 0) && decide (ys.length * eW P E ≤ 140737488355328) && decide (1 ≤ eW P E) then gc d o H (.row E s ys) .rw fun v a => k (dE T o.dst v) (H.act a) else none
 | .rw n => match H n with
  | some (.row E' s' xs) => if E' = E then match s'.same s with
   | some ⟨h⟩ => if decide (((h ▸ xs : List s.T).length + ys.length) * eW P E ≤ 140737488355328) && decide (1 ≤ eW P E) then k (dE (d9 n .none T) o.dst (.rw n)) ((H.sub n .none).set n (some (.row E s ((h ▸ xs : List s.T) ++ ys)))) else none
   | none => none else none
  | _ => none
 | .sl n z l => match H n with
  | some (.row E' s' xs) => if z = 0 then if E' = E then match s'.same s with
   | some ⟨h⟩ => if decide ((((h ▸ xs : List s.T).take l).length + ys.length) * eW P E ≤ 140737488355328) && decide (1 ≤ eW P E) then k (dE (d9 n .none T) o.dst (.rw n)) ((H.sub n .none).set n (some (.row E s ((h ▸ xs : List s.T).take l ++ ys)))) else none
   | none => none else none else none
  | _ => none
 | _ => none
end
def d6 : List (List Int) → List DV → Int → Option DV
 | l :: ks, d :: vs, n => if (l.any fun x => n == x) = true then some d else d6 ks vs n
 | _, _, _ => none
def lu (H : Heap) : DV → Option (List (List Int) × List DV)
 | .tab ks vs => some (ks, vs)
 | .mh n => match H n with
  | some (.mp ks vs) => some (ks, vs)
  | _ => none
 | _ => none
def wZ {α : Type} : List (List Int) → List DV → DV → Int → (DV → Bool → Option α) → Option α
 | l :: ks, v :: vs, z, n, k => if (l.any fun x => n == x) = true then k v true else wZ ks vs z n k
 | _, _, z, _, k => k z false
abbrev K (α : Type) := List DV → Heap → Option α
def eO {α : Type} (P : Program) (d : Nat) (o : Oper) (T : List DV) (H : Heap) (k : DV → fL → Option α) : Option α :=
 let ρ := dh T
 let v (x : DV) : Option α := k x none
 let ov (x : Option DV) : Option α := match x with | some x => k x none | none => none
 match o.op with
 | .move x | .assign x => v (ρ x)
 | .pick c a b => pe (ρ c) (ρ a) (ρ b) v
 | .alloc e => match nN P e with | some its => gc d o H (.obj its) (fun n => .ptr n 0 []) k | none => none
 | .box e x => match pD (yk P 8 e) (ρ x).items with
  | some its => if (ρ x).storable = true then gc d o H (.obj its) (fun n => .ptr n 0 []) k else none
  | none => none
 | .build t ps => match (if l8 P t = true then nN P t else none) with
  | some its => match vB (ti P t) (ps.toList.map fun e => (e.1, ρ e.2)) its with
   | some its => v (.agg its)
   | none => none
  | none => none
 | .buildSlice t n ps => match P.underlying t with
  | some (.slice e) => match gF P 8 e with
   | some s => if ps.toList.map (·.1) = List.range n then if i7 P e s.sz then match zN s (ps.toList.map fun e => ρ e.2) with
    | some xs => if n * s.sz ≤ 4096 then if (decide (0 < s.sz) && (n == 0 || (nN P e).isSome)) = true then gc d o H (.row e s xs) .rw k else none else none
    | none => none else none else none
   | none => none
  | _ => none
 | .load t a => ov (lp P t H (ρ a))
 | .store t a x => match p8 P t H (ρ a) (ρ x) with | some a => k .undef (some a) | none => none
 | .nilCheck x => match ρ x with
  | .ptr n o p => v (.ptr n o p)
  | .rp n sz i p => v (.rp n sz i p)
  | .pi its => v (.pi its)
  | .fn (.func g) a b => v (.fn (.func g) a b)
  | _ => none
 | .binOp op t x y _ => zM P op t (ρ x) (ρ y) v
 | .unOp op _ x => match op, ρ x with
  | .not, .sc (.bool b) => v (.sc (.bool !b))
  | .neg, .sc (.int k n) => v (.sc (.int k (k.wrap (0 - n))))
  | _, _ => none
 | .convert s t x => match P.underlying s, P.underlying t, ρ x with
  | some (.int _), some (.int k), .sc (.int _ n) => v (.sc (.int k (k.wrap n)))
  | some .string, some .string, .sc (.string s) => v (.sc (.string s))
  | some (.slice e), some .string, y => match P.underlying e with
   | some (.int .u8) => (match ez H (.int .u8) y with | some xs => v (.sc (.string (fc xs))) | none => none)
   | _ => none
  | some .string, some (.slice e), .sc (.string s) => match P.underlying e with
   | some (.int .u8) => v (.vs (.int .u8) (vz s))
   | _ => none
  | _, _, _ => none
 | .makeFunc F a b => v (.fn F (a.toList.map ρ) (b.toList.map ρ))
 | .makeSlice t l c => match P.underlying t with
  | some (.slice e) => match gF P 8 e, ρ l, ρ c with
   | some s, .sc (.int .i64 n), .sc (.int .i64 m) => if decide (0 ≤ n) && (n == m) && decide (n * (eW P e : Int) ≤ 140737488355328) && decide (1 ≤ eW P e) then if j9 P e s then gc d o H (.row e s (List.replicate n.toNat s.dflt)) .rw k else none else none
   | _, _, _ => none
  | _ => none
 | .slice t x lo hi mx => lr P t H (ρ x) (lo.map ρ) (hi.map ρ) (mx.map ρ) v
 | .fieldAddr t x f => ov (qV P t (ρ x) f)
 | .field t x f => ov (Co P t (ρ x) f)
 | .indexAddr t x i => match ρ i with | .sc (.int _ i) => iH P t H (ρ x) i v | _ => none
 | .index t x i => match ρ i with | .sc (.int _ i) => p6 P t (ρ x) i v | _ => none
 | .makeMap t none => match P.underlying t with
  | some (.map _ _) => gc d o H (.mp [] []) .mh k
  | _ => none
 | .insert t m i x => match P.underlying t, ρ m, ρ i with
  | some (.map kt _), .mh n, .sc (.int .i64 j) => match P.underlying kt, H n with
   | some (.int .i64), some (.mp ks vs) => if (d6 ks vs j).isNone = true then k .undef (some (n, .mp ([j] :: ks) (ρ x :: vs))) else none
   | _, _ => none
  | _, _, _ => none
 | .lookup t x i c => match P.underlying t, lu H (ρ x), ρ i with
  | some (.map kt e), some (ks, vs), .sc (.int .i64 n) => match P.underlying kt, P.info? e with
   | some (.int .i64), some it => match it.zero with
    | some z => wZ ks vs (At z) n fun u b => v (if c then .tup [u, .sc (.bool b)] else u)
    | none => none
   | _, _ => none
  | _, _, _ => none
 | .extract x i => match ρ x with | .tup vs => ov vs[i]? | _ => none
 | .call c => match c.callee with
  | .builtin .len => match c.args.toList, c.argTypes[0]? with
   | [x], some t => (match zL P t H (ρ x) with | some n => v (.sc (.int .i64 n)) | none => none)
   | _, _ => none
  | .builtin .min => match c.args.toList.map ρ with | .sc (.int k x) :: r => ov (Cp k x r) | _ => none
  | .builtin .max => match c.args.toList.map ρ with | .sc (.int k x) :: r => ov (Cq k x r) | _ => none
  | _ => none
 | _ => none
def Nf : DV → Bool
 | .rp _ _ _ _ => true
 | _ => false
def lv {α : Type} (P : Program) (d : Nat) (o : Oper) (T : List DV) (H : Heap) (k : K α) : Option α :=
 match o.op with
 | .buildSlice _ _ ps => match kc (ps.toList.map fun e => dh T e.2) T H with
  | (_, T, H) => eO P d o T H fun v a => k (dE T o.dst v) (H.act a)
 | .store _ x y => if Nf (dh T x) = true then (match kc [dh T y] T H with
  | (_, T, H) => eO P d o T H fun v a => k (dE T o.dst v) (H.act a)) else eO P d o T H fun v a => k (dE T o.dst v) (H.act a)
 | .call c => match c.callee with
  | .builtin .append => match c.args.toList, c.argTypes.toList with
   | [x, y], [t, t'] => if t = t' then match P.underlying t with
    | some (.slice e) => match gF P 8 e with
     | some s => if j9 P e s then match ez H s (dh T y) with
      | some ys => iU P d o e s (dh T x) ys T H k
      | none => none else none
     | none => none
    | _ => none else none
   | _, _ => none
  | .builtin .copy => match c.args.toList, c.argTypes.toList with
   | [x, y], [t, _] => (match P.underlying t, dh T x with
    | some (.slice e), .ps n z p m' l => (match H n with
     | some (.obj cs) => (match pY cs (.off z :: p) with
      | some (.arr s m xs :: _) => if (i7 P e 1 && (Nat.beq s.sz 1 && Nat.beq m m')) = true then (match ez H s (dh T y) with
       | some ys => (match oj [.arr s m (ys.take (min ys.length l) ++ xs.drop (min ys.length l))] (.off z :: p) cs with
        | some cs => k (dE T o.dst (.sc (.int .i64 (min ys.length l : Nat)))) (H.set n (some (.obj cs)))
        | none => none)
       | none => none) else none
      | _ => none)
     | _ => none)
    | _, _ => none)
   | _, _ => none
  | _ => eO P d o T H fun v a => k (dE T o.dst v) (H.act a)
 | _ => eO P d o T H fun v a => k (dE T o.dst v) (H.act a)
section
variable {α : Type} (cx : Cx)
def fY (P : Program) (f : FuncId) : Bool := match P.funcs[f]? with
 | some fn => fn.name != "runtime.NumGoroutine" && fn.body.isSome
 | none => false
abbrev gH (α : Type) := FuncId → List DV → Heap → (DV → Heap → Option (List Nat) → Option α) → Option α
def ku (T : List DV) : Option (List Nat) → List DV
 | some u => dJ u T
 | none => iG T
def n6 (g : FuncId) : Bool := false
def Cr {β : Type} : List DV → (List DV → β) → β
 | [], k => k []
 | d :: r, k => Cr r fun r => k (d :: r)
theorem Au {β : Type} : ∀ (T : List DV) (k : List DV → β), Cr T k = k T
 | [], _ => rfl
 | d :: r, k => Au r fun r => k (d :: r)
def Cs {β : Type} (d : Option Nat) (T : List DV) (k : List DV → β) : β := match d with
 | some t => if Nat.beq (t % 8) 0 = true then Cr T k else k T
 | none => k T
theorem Av {β : Type} (d : Option Nat) (T : List DV) (k : List DV → β) : Cs d T k = k T := by
 unfold Cs
 split
 ·split
  ·exact Au _ _
  ·rfl
 ·rfl
def Cx.fl (cx : Cx) : Bool := (cx.loops 999999 0).isSome
def L6 {β : Type} (fl b : Bool) (x y : β) : β := Bool.rec (motive := fun _ => β) (if b = true then x else y) (Bool.rec (motive := fun _ => β) y x b) fl
theorem Hp {β : Type} (fl b : Bool) (x y : β) : L6 fl b x y = if b = true then x else y := by cases fl <;> cases b <;> rfl
def e9 (call : gH α) (d : Nat) (ops : Array Oper) : List Oper → List DV → Heap → K α → Option α
 | [], T, H, k => k T H
 | o :: r, T, H, k => Cs o.dst T fun T =>
  let run (T : List DV) : Option α := match o.op with
   | .call c => match c.callee with
    | .value f => match dh T f with
     | .fn (.func g) a b => match (if n6 g = true then (a ++ c.args.toList.map (dh T) ++ b, T, H) else kc (a ++ c.args.toList.map (dh T) ++ b) T H) with
      | (A, T, H) => call g A H fun v H u => e9 call d ops r (dE (ku T u) o.dst v) H k
     | _ => none
    | _ => lv cx.P d o T H fun T H => e9 call d ops r T H k
   | _ => lv cx.P d o T H fun T H => e9 call d ops r T H k
  match o.guard with
  | none => run T
  | some (j, want) => match (ops[j]?).bind (·.dst) with
   | some g => match T.getD g .undef with
    | .sc (.bool b) =>
     L6 cx.fl b (L6 cx.fl want (run (T.set g (.sc (.bool true)))) (e9 call d ops r (dE (T.set g (.sc (.bool true))) o.dst (.tup [])) H k))
      (L6 cx.fl want (e9 call d ops r (dE (T.set g (.sc (.bool false))) o.dst (.tup [])) H k) (run (T.set g (.sc (.bool false)))))
    | .tup [] => e9 call d ops r (dE T o.dst (.tup [])) H k
    | _ => none
   | none => none
def gI : DV → List Nat
 | .ptr n _ _ => [n]
 | .rp n _ _ _ => [n]
 | .rw n => [n]
 | .sl n _ _ => [n]
 | .mh n => [n]
 | .ps n _ _ _ _ => [n]
 | _ => []
def tm (o : Oper) : Bool := match o.op with
 | .move _ | .assign _ | .extract _ _ | .nilCheck _ | .fieldAddr _ _ _ | .field _ _ _ | .binOp _ _ _ _ _ | .unOp _ _ _ | .pick _ _ _ | .makeFunc _ _ _ => false
 | _ => true
def fd (T : List DV) (o : Oper) : List Nat := if tm o = true then o.op.operands.toList.flatMap fun x => gI (dh T x) else []
def zO (o : Oper) : Bool := match o.op with
 | .alloc _ | .box _ _ | .buildSlice _ _ _ | .makeSlice _ _ _ | .makeMap _ _ => true
 | _ => false
mutual
def DV.rows : DV → List Nat
 | .rp n _ _ _ => [n]
 | .rw n => [n]
 | .sl n _ _ => [n]
 | .fn _ a b => mJ a ++ mJ b
 | .agg cs => mJ cs
 | .tup cs => mJ cs
 | .tab _ vs => mJ vs
 | _ => []
def mJ : List DV → List Nat
 | [] => []
 | d :: r => d.rows ++ mJ r
end
def mK : Option Blk → List Nat
 | some (.obj cs) => mJ cs
 | some (.mp _ vs) => mJ vs
 | _ => []
def fi (u h : List Nat) : Bool := u.all fun n => !h.contains n
structure Act2 where
 u : List Nat
 W : List Nat
 B : Heap
def Act2.of : fL → Act2
 | none => ⟨[], [], fun _ => none⟩
 | some (n, b) => ⟨[], [n], fun _ => some b⟩
def Heap.act2 (H : Heap) (a : Act2) : Heap := fun n => if a.W.contains n = true then a.B n else (dv a.u H) n
structure Did where
 o : Oper
 r : List Nat
 w : List Nat
 u : List Nat
 h : List Nat
 T : List DV
 H : Heap
def Cg (ops : Array Oper) (T : List DV) (H : Heap) (o : Oper) (v : DV) (r : List Nat) (a : Act2) : List Nat := v.rows ++ ((o.looksAt ops).flatMap (fun t => (T.getD t .undef).rows) ++ (r.flatMap (fun n => mK (H n)) ++ a.W.flatMap (fun n => mK (a.B n))))
def iI (ops : Array Oper) (T : List DV) (H : Heap) (o : Oper) (v : DV) (r : List Nat) (a : Act2) : Did := ⟨o, r, a.W, a.u, Cg ops T H o v r a, T, H⟩
def gu (d : Nat) (o : Oper) (n : Nat) : Bool := zO o && decide (base d o.dst ≤ n) && decide (n < base d o.dst + 64)
def l9 (u : List Nat) (H : Heap) (d : Nat) (o : Oper) : Bool := !zO o || (List.range 64).all fun i => fi u (mK (H (base d o.dst + i)))
def Gb (d : Nat) (ops : Array Oper) (x y : Did) : Bool := (x.u.isEmpty || (fi x.u y.h && (l9 x.u x.H d y.o && ((y.r.all fun n => fi x.u (mK (x.H n))) && (y.o.looksAt ops).all fun t => fi x.u (x.T.getD t .undef).rows)))) && (y.u.isEmpty || (fi y.u x.h && l9 y.u x.H d x.o))
def Gc (d : Nat) (ops : Array Oper) (x y : Did) : Bool :=
 (x.w.all fun n => !y.r.contains n && (!y.w.contains n && !gu d y.o n)) &&
 ((y.w.all fun n => !x.r.contains n && !gu d x.o n) && Gb d ops x y)
def iM (d : Nat) (ops : Array Oper) (x y : Did) : Bool := Gc d ops x y && x.o.apart ops y.o
def wl (x : Did) : Bool := x.w.isEmpty && x.u.isEmpty
def jo (anc : List Nat) (j i : Nat) : Bool := Nat.beq (anc.getD j 0 / 2 ^ i % 2) 1
def vC (acc : List Nat) : List Edge → Nat → Nat
 | [], m => m
 | e :: r, m => vC acc r (m ||| (2 ^ e.on ||| acc.getD e.on 0))
def tn : Nat → List Oper → List Nat → Option (List Nat)
 | _, [], acc => some acc
 | i, o :: r, acc => if (o.after.toList.filter (Region.binds .any)).all (fun e => decide (e.on < i)) then tn (i + 1) r (acc ++ [vC acc (o.after.toList.filter (Region.binds .any)) 0]) else none
def oo (ops : Array Oper) (anc : List Nat) : Bool := (List.range ops.size).all fun j => (List.range j).all fun i => jo anc j i || match ops[i]?, ops[j]? with | some x, some y => x.apart ops y | _, _ => true
def gV : List DV → DV
 | [v] => v
 | l => .tup l
def nO : List FS → List DV → (DV → Option α) → Option (Option α)
 | [], _, _ => none
 | S :: r, A, k => if S.pure then match S.tin.pr ⟨[], []⟩ A (fun _ => none) with
  | some (x, _) => some ((S.fn x).bind fun y => k (gV (S.tout.T nam0 (S.out y))))
  | none => nO r A k else nO r A k
def yn : DV → Bool
 | .ptr _ _ _ => true
 | _ => false
def oq (g : FuncId) (A : List DV) : Option DV := if fY cx.P g = true then match cx.tabs g with
 | some (n, ks, Fs) => if A.length = n then if A.all yn = true then some (.tab ks (Fs.map fun F => .fn (.func F) A [])) else none else none
 | none => none else none
def yo (anc : List Nat) (n j : Nat) : Bool := ((List.range j).all fun i => jo anc j i) && (List.range n).all fun i => decide (i ≤ j) || jo anc i j
def kA (b : Nat) (m : Met) : Nam := ⟨fun i => match m.get i with | some n => n | none => b + 64 * (400000 + i), fun c => b + 64 * c⟩
def pf : List FS → List DV → Heap → Nat → (DV → Act2 → Option α) → Option (Option α)
 | [], _, _, _, _ => none
 | S :: r, A, H, b, k => match S.tin.pr ⟨[], []⟩ A H with
  | some (x, m) => some ((S.fn x).bind fun y =>
   if S.tout.free (kA b m) ((dv m.u H).away m) = true then k (gV (S.tout.T (kA b m) (S.out y))) ⟨m.u, m.σ.map (·.2) ++ m.u ++ S.tout.names (kA b m), S.tout.H (kA b m) (S.out y) fun _ => none⟩ else none)
  | none => pf r A H b k
def Ct (d : Nat) (o : Oper) : Nat := 10000000000000000 + (d * 1000 + o.dst.getD 0) * 1000000000
def d7 (P : Program) (d : Nat) (o : Oper) (E : TypeId) (s : Sh) (x : DV) (ys : List s.T) (H : Heap) (k : DV → Act2 → Option α) : Option α := match x with
 | .sc (.slice none z c) => if decide (z = 0) && decide (c = 0) && decide (ys.length * eW P E ≤ 140737488355328) && decide (1 ≤ eW P E) then (match H (base d o.dst) with
  | none => k (.rw (base d o.dst)) ⟨[], [base d o.dst], fun _ => some (.row E s ys)⟩
  | some _ => none) else none
 | .rw n => match H n with
  | some (.row E' s' xs) => if E' = E then match s'.same s with
   | some ⟨h⟩ => if decide (((h ▸ xs : List s.T).length + ys.length) * eW P E ≤ 140737488355328) && decide (1 ≤ eW P E) then k (.rw n) ⟨[n], [n], fun _ => some (.row E s ((h ▸ xs : List s.T) ++ ys))⟩ else none
   | none => none else none
  | _ => none
 | .sl n z l => match H n with
  | some (.row E' s' xs) => if z = 0 then if E' = E then match s'.same s with
   | some ⟨h⟩ => if decide ((((h ▸ xs : List s.T).take l).length + ys.length) * eW P E ≤ 140737488355328) && decide (1 ≤ eW P E) then k (.rw n) ⟨[n], [n], fun _ => some (.row E s ((h ▸ xs : List s.T).take l ++ ys))⟩ else none
   | none => none else none else none
  | _ => none
 | _ => none
def vD (P : Program) (d : Nat) (o : Oper) (c : Call) (T : List DV) (H : Heap) (k : DV → Act2 → Option α) : Option α := match c.args.toList, c.argTypes.toList with
 | [x, y], [t, t'] => if t = t' then match P.underlying t with
  | some (.slice e) => match gF P 8 e with
   | some s => if j9 P e s = true then match ez H s (dh T y) with
    | some ys => d7 P d o e s (dh T x) ys H k
    | none => none else none
   | none => none
  | _ => none else none
 | _, _ => none
def mZ : List FS → List DV → Heap → (DV → List Nat → Option α) → Option (Option α)
 | [], _, _, _ => none
 | S :: r, A, H, k => match S.tin.pr ⟨[], []⟩ A H with
  | some (x, m) => some ((S.fn x).bind fun y => k (gV (S.tout.T nam0 (S.out y))) (m.σ.map (·.2) ++ m.u))
  | none => mZ r A H k
def m9 : List QR → List DV → Heap → (Blk → List Nat → Option α) → Option (Option α)
 | [], _, _, _ => none
 | S :: r, A, H, k => match S.tin.pr ⟨[], []⟩ A H with
  | some (x, m) => some ((S.fn x).bind fun xs => k (.row S.E S.s xs) (m.σ.map (·.2) ++ m.u))
  | none => m9 r A H k
def zP (call : gH α) (d N : Nat) (anc : List Nat) (o : Oper) (j : Nat) (T : List DV) (H : Heap) (next : DV → fL → Option α) (soft : List Nat → DV → Act2 → Option α) (on : K α) : Option α := match o.op with
 | .call c => match c.callee with
  | .value f => match dh T f with
   | .fn (.func g) a b => match oq cx g (a ++ c.args.toList.map (dh T) ++ b) with
    | some v => next v none
    | none => match (if fY cx.P g = true then nO (cx.specs g) (a ++ c.args.toList.map (dh T) ++ b) (fun v => next v none) else none) with
     | some r => r
     | none => match (if fY cx.P g = true then mZ (cx.qs g) (a ++ c.args.toList.map (dh T) ++ b) H (fun v rd => soft rd v ⟨[], [], fun _ => none⟩) else none) with
     | some r => r
     | none => match (if fY cx.P g = true then m9 (cx.qr g) (a ++ c.args.toList.map (dh T) ++ b) H (fun bk rd => match H (base d o.dst) with
      | none => soft (rd ++ [base d o.dst]) (.rw (base d o.dst)) ⟨[], [base d o.dst], fun _ => some bk⟩
      | some _ => none) else none) with
     | some r => r
     | none => if yo anc N j then match (if n6 g = true then (a ++ c.args.toList.map (dh T) ++ b, T, H) else kc (a ++ c.args.toList.map (dh T) ++ b) T H) with
      | (A, T, H) => call g A H fun v H u => on (dE (ku T u) o.dst v) H
      else match (if fY cx.P g = true then pf (cx.specs g) (a ++ c.args.toList.map (dh T) ++ b) H (Ct d o) (fun v a => soft a.W v a) else none) with
       | some r => r
       | none => none
   | _ => none
  | .builtin .append => if yo anc N j then lv cx.P d o T H on else vD cx.P d o c T H fun v a => soft (fd T o ++ a.W) v a
  | _ => eO cx.P d o T H next
 | .store _ x _ => if (Nf (dh T x) && yo anc N j) = true then lv cx.P d o T H on else eO cx.P d o T H next
 | _ => eO cx.P d o T H next
def sH (ops : Array Oper) (anc : List Nat) (d j : Nat) (q : Bool) (log : List (Nat × Did)) (x : Did) : Bool := (q && wl x) || log.all fun e => (wl e.2 && wl x) || (jo anc j e.1 || Gc d ops e.2 x)
def dN (call : gH α) (d : Nat) (ops : Array Oper) (anc : List Nat) : List Oper → Nat → Bool → List (Nat × Did) → List DV → Heap → K α → Option α
 | [], _, _, _, T, H, k => k T H
 | o :: r, j, q, log, T, H, k =>
  let next (T : List DV) (v : DV) (a : fL) : Option α :=
   if sH ops anc d j q log (iI ops T H o v (fd T o) (Act2.of a)) = true then dN call d ops anc r (j + 1) (q && a.isNone) ((j, iI ops T H o v (fd T o) (Act2.of a)) :: log) (dE T o.dst v) (H.act a) k else none
  let soft (T : List DV) (rd : List Nat) (v : DV) (a : Act2) : Option α :=
   if sH ops anc d j q log (iI ops T H o v rd a) = true then dN call d ops anc r (j + 1) false ((j, iI ops T H o v rd a) :: log) (dE (dJ a.u T) o.dst v) (H.act2 a) k else none
  let run (T : List DV) : Option α := zP cx call d ops.size anc o j T H (next T) (soft T) (fun T H => dN call d ops anc r (j + 1) true [] T H k)
  match o.guard with
  | none => run T
  | some (j, want) => match (ops[j]?).bind (·.dst) with
   | some g => match T.getD g .undef with
    | .sc (.bool b) =>
     if b then (if want then run (T.set g (.sc (.bool true))) else next (T.set g (.sc (.bool true))) (.tup []) none)
     else (if want then next (T.set g (.sc (.bool false))) (.tup []) none else run (T.set g (.sc (.bool false))))
    | .tup [] => next T (.tup []) none
    | _ => none
   | none => none
def lw (body : List DV → Heap → (Ex → List DV → Heap → Option α) → Option α) : Nat → List DV → Heap → (Ex → List DV → Heap → Option α) → Option α
 | 0, _, _, _ => none
 | n + 1, T, H, k => body T H fun e T H => match e with
  | .norm => lw body n T H k
  | e => k e T H
def vE : List IK → List DV → List Nat
 | .val (.sl _) :: ks, d :: T => yl d ++ vE ks T
 | _ :: ks, _ :: T => vE ks T
 | _, _ => []
def tp (L : Loop) (b : Nat) (T : List DV) (H : Heap) (k : Ex → List DV → Heap → Option α) : Option α := match L.tin.pr ⟨[], []⟩ T H with
 | some (x, m) => (L.fn (L.back x)).bind fun y => qU L.outs (L.out y) fun e t y =>
  let H' := dv m.u H
  let ρ := mY H' b m
  if t.free ρ (H'.away m) = true then k e (t.T ρ y) (t.H ρ y (H'.away m)) else none
 | none => none
def pg (L : Loop) (b : Nat) (T : List DV) (H : Heap) (k : Ex → List DV → Heap → Option α) : Option α := match kq (vE L.tin.ks T) [] T H with
 | (_, T, H) => tp L b T H k
def Mm (L : Loop) (T : List DV) (H : Heap) : Bool := match kq (vE L.tin.ks T) [] T H with
 | (_, T, H) => (L.tin.pr ⟨[], []⟩ T H).isSome
def Ql (b : Code) : Nat := 1000000 + gn b
def Hq (f : FuncId) (b : Code) (T : List DV) (H : Heap) : Option Loop := match cx.loops f (Ql b) with
 | some L => if (L.tin.pr ⟨[], []⟩ T H).isSome = true then some L else none
 | none => none
def JV (b : List DV → Heap → (Ex → List DV → Heap → Option α) → Option α) (k : Ex → List DV → Heap → Option α) (e : Ex) (T : List DV) (H : Heap) : Option α := match e with
 | .norm => b T H k
 | e => k e T H
def JW (c : Operand) (t : Bool) (T : List DV) : List DV := match c with | .tmp i => T.set i (.sc (.bool t)) | _ => T
def dW (call : gH α) (f d : Nat) : Code → List DV → Heap → (Ex → List DV → Heap → Option α) → Option α
 | .skip, T, H, k => k .norm T H
 | .label _, T, H, k => k .norm T H
 | .region _ ops draw, T, H, k => if draw then match tn 0 ops.toList [] with
   | some anc => if (cx.P.follows .mixedOrders && oo ops anc) = true then dN cx call d ops anc ops.toList 0 true [] T H fun T H => k .norm T H else none
   | none => none
  else e9 cx call d ops ops.toList T H fun T H => k .norm T H
 | .seq a b, T, H, k => match Hq cx f b T H with
  | some L => pg L (2000000000 + (d * 1000 + 500 + gn b) * 100000000) T H fun e T H => JV (dW call f d b) k e T H
  | none => dW call f d a T H fun e T H => JV (dW call f d b) k e T H
 | .cond c a b, T, H, k => match dh T c with
  | .sc (.bool t) => if t then dW call f d a (JW c true T) H k else dW call f d b (JW c false T) H k
  | _ => none
 | .block id c, T, H, k => dW call f d c T H fun e T H => match e with
  | .exit j => if j = id then k .norm T H else k (.exit j) T H
  | e => k e T H
 | .loop c, T, H, k => match cx.loops f (gn c) with
  | some L => if Mm L T H = true then pg L (2000000000 + (d * 1000 + gn c) * 100000000) T H k else if (cx.loops 999998 0).isSome = true then none else lw (dW call f d c) 64 T H k
  | none => lw (dW call f d c) 64 T H k
 | .scope c, T, H, k => dW call f d c T H fun e T H => match e with
  | .goto _ => none
  | e => k e T H
 | .exit id, T, H, k => k (.exit id) T H
 | .goto l, T, H, k => k (.goto l) T H
 | .ret, T, H, k => k .ret T H
 | .refuse _, _, _, _ => none
 | .rangeFunc _ _ _ _, _, _, _ => none
def pF (P : Program) (T : List DV) (H : Heap) : List ResultVar → Option (List DV)
 | [] => some []
 | .tmp t :: r => match pF P T H r with | some l => some (T.getD t .undef :: l) | none => none
 | .cell a t :: r => match lp P t H (T.getD a .undef), pF P T H r with | some v, some l => some (v :: l) | _, _ => none
def ph : List FS → (T : List DV) → Heap → Nat → (DV → Heap → Option (List Nat) → Option α) → Option (Option α)
 | [], _, _, _, _ => none
 | S :: r, A, H, b, k => match S.tin.pr ⟨[], []⟩ A H with
  | some (x, m) => some ((S.fn x).bind fun y =>
   let H' := dv m.u H
   let ρ := mY H' b m
   if S.tout.free ρ (H'.away m) = true then k (gV (S.tout.T ρ (S.out y))) (S.tout.H ρ (S.out y) (H'.away m)) (some m.u) else none)
  | none => ph r A H b k
def jc (call : gH α) (f d : Nat) (A : List DV) (H : Heap) (k : DV → Heap → Option α) : Option α := match cx.P.funcs[f]? with
 | some fn => match fn.body with
  | some c => dW cx call f d c (A ++ List.replicate (fn.ntmps - A.length) .undef) H fun e T H => match e with
   | .norm => (match pF cx.P T H fn.results.toList with | some vs => k (gV vs) H | none => none)
   | .ret => (match pF cx.P T H fn.results.toList with | some vs => k (gV vs) H | none => none)
   | _ => none
  | none => none
 | none => none
def fe : Nat → Nat → gH α
 | 0, _, _, _, _, _ => none
 | n + 1, d, f, A, H, k => if fY cx.P f = true then match oq cx f A with
  | some v => k v H (some [])
  | none => match ph (cx.specs f) A H (3000000000 + d * 100000000000) k with
   | some r => r
   | none => if ((cx.specs f).isEmpty || (cx.specs f).any fun S => !S.pure) = true then jc cx (fe n (d + 1)) f d A H fun v H => k v H none else none
  else none
end
end Go.Proofs.Dk
namespace Go.Proofs.Dk
open Go Go.RowKit
structure RO where
 r : Nat → Prop
 fam : TypeId → List Nat
instance : CoeFun RO (fun _ => Nat → Prop) := ⟨RO.r⟩
def Sh.K (R : RO) (w : World) : (s : Sh) → s.T → List Value → Prop
 | .int k, n, cs => cs = [.int k n]
 | .bool, b, cs => cs = [.bool b]
 | .str, s, cs => cs = [.string s]
 | .pair a b, x, cs => ∃ c1 c2, cs = c1 ++ c2 ∧ a.K R w x.1 c1 ∧ b.K R w x.2 c2
 | .sl e, xs, cs => ∃ A cap, cs = [.slice A xs.length cap] ∧ xs.length ≤ cap ∧ (xs ≠ [] → ∃ a, A = some a ∧ a.spot = none ∧ R a.block ∧ ∀ i x, xs[i]? = some x → ∃ c, c.length = e.sz ∧ e.K R w x c ∧ ∀ j u, c[j]? = some u → w.cell? (a.add (i * e.sz + j)) = some u)
 | .fp t, n, cs => (n = 0 ∧ cs = [.pointer none]) ∨ ∃ m b, n = m + 1 ∧ (R.fam t)[m]? = some b ∧ cs = [.pointer (some ⟨b, 0, none⟩)]
 | .arr n e, xs, cs => xs.length = n ∧ cs.length = n * e.sz ∧ ∀ i x, xs[i]? = some x → e.K R w x ((cs.drop (i * e.sz)).take e.sz)
theorem Sh.K_len {R : RO} {w : World} : ∀ {s : Sh} {x : s.T} {cs : List Value}, s.K R w x cs → cs.length = s.sz
 | .int _, _, _, h => by cases h; rfl
 | .bool, _, _, h => by cases h; rfl
 | .str, _, _, h => by cases h; rfl
 | .pair a b, x, _, ⟨c1, c2, e, h1, h2⟩ => by rw [e, aF, K_len h1, K_len h2]; rfl
 | .sl _, _, _, ⟨A, cap, e, _⟩ => by rw [e]; rfl
 | .fp t, n, cs, h => by rcases h with ⟨_, rfl⟩ | ⟨m, b, _, _, rfl⟩ <;> rfl
 | .arr n e, _, _, ⟨_, h, _⟩ => h
structure Keeps (R R' : RO) (w w' : World) : Prop where
 sub : ∀ b, R b → R' b
 same : ∀ b, R b → w'.heap[b]? = w.heap[b]?
 fam : ∀ (t : TypeId) (i b : Nat), (R.fam t)[i]? = some b → (R'.fam t)[i]? = some b
theorem Keeps.refl (R : RO) (w : World) : Keeps R R w w := ⟨fun _ h => h, fun _ _ => rfl, fun _ _ _ h => h⟩
theorem Keeps.trans {R R1 R2 : RO} {w w1 w2 : World} (h : Keeps R R1 w w1) (k : Keeps R1 R2 w1 w2) : Keeps R R2 w w2 := ⟨fun b hb => k.sub b (h.sub b hb), fun b hb => (k.same b (h.sub b hb)).trans (h.same b hb), fun t i b hb => k.fam t i b (h.fam t i b hb)⟩
theorem kJ {w w' : World} {a : Addr} (h : w'.heap[a.block]? = w.heap[a.block]?) : w'.cell? a = w.cell? a := World.cell?_of_block h
theorem gp (a : Addr) (n : Nat) : (a.add n).block = a.block := by unfold Addr.add; split <;> rfl
theorem Sh.K_keep {R R' : RO} {w w' : World} (hk : Keeps R R' w w') : ∀ {s : Sh} {x : s.T} {cs : List Value}, s.K R w x cs → s.K R' w' x cs
 | .int _, _, _, h => h
 | .bool, _, _, h => h
 | .str, _, _, h => h
 | .pair a b, x, _, ⟨c1, c2, e, h1, h2⟩ => ⟨c1, c2, e, K_keep hk h1, K_keep hk h2⟩
 | .sl e, xs, _, ⟨A, cap, h1, h2, h3⟩ => ⟨A, cap, h1, h2, fun hn => by
   obtain ⟨a, e1, e2, e3, e4⟩ := h3 hn
   refine ⟨a, e1, e2, hk.sub _ e3, fun i x hx => ?_⟩
   obtain ⟨c, g1, g2, g3⟩ := e4 i x hx
   exact ⟨c, g1, K_keep hk g2, fun j u hu => (kJ (by rw [gp]; exact hk.same _ e3)).trans (g3 j u hu)⟩⟩
 | .fp t, n, _, h => h.imp id fun ⟨m, b, h1, h2, h3⟩ => ⟨m, b, h1, hk.fam t m b h2, h3⟩
 | .arr n e, xs, _, ⟨h1, h2, h3⟩ => ⟨h1, h2, fun i x hx => K_keep hk (h3 i x hx)⟩
inductive Ent where
 | obj (b : Nat)
 | row (sz : Nat) (v : Value)
 | fam (t : TypeId) (B : Nat → Nat → Prop)
def Ent.has : Ent → Nat → Prop
 | .obj b, c => b = c
 | .row _ v, c => v.ownBlock = some c
 | .fam _ B, c => ∃ i, B i c
structure In where
 ι : Nat → Option Ent
 R : RO
def dO : List Ix → Nat
 | [] => 0
 | .ix i _ sz :: p => i * sz + dO p
 | .off k :: p => k + dO p
def lW : List Ix → Prop
 | [] => True
 | .ix i m _ :: p => i < m ∧ lW p
 | .off _ :: p => lW p
def _root_.Go.Proofs.Dk.DV.imm : DV → Bool
 | .sc _ | .vs _ _ | .arr _ _ _ | .fp _ _ => true
 | _ => false
structure TabE (ks : List (List Int)) (vs : List DV) (val : Int → Value) (es : List MapEntry) : Prop where
 keys : ∀ e ∈ es, ∃ n, e.key = .int .i64 n
 here : ∀ e ∈ es, ∀ n, e.key = .int .i64 n → val n = e.val ∧ (d6 ks vs n).isSome = true
 all : ∀ n, (d6 ks vs n).isSome = true → ∃ e ∈ es, e.key = .int .i64 n
theorem TabE.map {ks : List (List Int)} {vs vs' : List DV} {val : Int → Value} {es : List MapEntry} {f : DV → DV} (h : TabE ks vs val es) (hv : ∀ n, d6 ks vs' n = (d6 ks vs n).map f) : TabE ks vs' val es :=
 ⟨h.keys, fun e he n hn => ⟨(h.here e he n hn).1, by rw [hv, Option.isSome_map]; exact (h.here e he n hn).2⟩, fun n hn => h.all n (by rw [hv, Option.isSome_map] at hn; exact hn)⟩
mutual
inductive VR (I : In) (w : World) : DV → Value → Prop where
 | undef (v : Value) : VR I w .undef v
 | sc (v : Value) (h : v.oneCell' = true) : VR I w (.sc v) v
 | ptr (n o : Nat) (p : List Ix) (b : Nat) (h : I.ι n = some (.obj b)) (hp : lW p) : VR I w (.ptr n o p) (.pointer (some ⟨b, o + dO p, none⟩))
 | rp (n sz i : Nat) (p : List Ix) (b len cap : Nat) (h : I.ι n = some (.row sz (.slice (some ⟨b, 0, none⟩) len cap))) (hi : i < len) (hp : lW p) : VR I w (.rp n sz i p) (.pointer (some ⟨b, i * sz + dO p, none⟩))
 | pi (its : List DV) (a : Addr) (cs : List Value) (hs : a.spot = none) (hR : I.R a.block) (him : ∀ d ∈ its, d.imm = true) (h : CR I w its cs) (hc : ∀ j u, cs[j]? = some u → w.cell? (a.add j) = some u) : VR I w (.pi its) (.pointer (some a))
 | rw (n sz : Nat) (v : Value) (h : I.ι n = some (.row sz v)) (hs : ∃ A l c, v = .slice A l c) : VR I w (.rw n) v
 | sl (n o l sz : Nat) (A A' : Option Addr) (len cap cap' : Nat) (h : I.ι n = some (.row sz (.slice A len cap))) (hl : o + l ≤ len) (h0 : o = 0 → A' = A ∧ cap' = cap) (h1 : 0 < l → ∃ b, A = some ⟨b, 0, none⟩ ∧ A' = some ⟨b, o * sz, none⟩) (hc : l ≤ cap') : VR I w (.sl n o l) (.slice A' l cap')
 | vs (s : Sh) (xs : List s.T) (v : Value) (h : (Sh.sl s).K I.R w xs [v]) : VR I w (.vs s xs) v
 | fn (F : Fn) (a b : List DV) (a' b' : Array Value) (h1 : LR I w a a'.toList) (h2 : LR I w b b'.toList) : VR I w (.fn F a b) (.func F a' b')
 | agg (ds : List DV) (cs : Array Value) (h : CR I w ds cs.toList) : VR I w (.agg ds) (.agg cs)
 | tup (ds : List DV) (vs : Array Value) (h : LR I w ds vs.toList) : VR I w (.tup ds) (.tuple vs)
 | tab (ks : List (List Int)) (vs : List DV) (val : Int → Value) (b : Nat) (es : Array MapEntry) (clock : Nat) (hR : I.R b) (hb : w.heap[b]? = some (.map es clock)) (hE : TabE ks vs val es.toList) (h : ∀ n d, d6 ks vs n = some d → VR I w d (val n)) : VR I w (.tab ks vs) (.map (some b))
 | mh (n b : Nat) (h : I.ι n = some (.obj b)) : VR I w (.mh n) (.map (some b))
 | fp (t : TypeId) (n : Nat) (v : Value) (h : (Sh.fp t).K I.R w n [v]) : VR I w (.fp t n) v
 | ps (n o : Nat) (p : List Ix) (m l b cap : Nat) (h : I.ι n = some (.obj b)) (hp : lW p) (hl : l ≤ cap) (hm : l ≤ m) : VR I w (.ps n o p m l) (.slice (some ⟨b, o + dO p, none⟩) l cap)
inductive CR (I : In) (w : World) : List DV → List Value → Prop where
 | nil : CR I w [] []
 | one (d : DV) (r : List DV) (u : Value) (cs : List Value) (h : VR I w d u) (hu : u.oneCell' = true) (hr : CR I w r cs) : CR I w (d :: r) (u :: cs)
 | arr (s : Sh) (n : Nat) (xs : List s.T) (r : List DV) (c cs : List Value) (h : (Sh.arr n s).K I.R w xs c) (h1 : ∀ u ∈ c, u.oneCell' = true) (hr : CR I w r cs) : CR I w (.arr s n xs :: r) (c ++ cs)
inductive LR (I : In) (w : World) : List DV → List Value → Prop where
 | nil : LR I w [] []
 | cons (d : DV) (r : List DV) (u : Value) (vs : List Value) (h : VR I w d u) (hr : LR I w r vs) : LR I w (d :: r) (u :: vs)
end
theorem Sh.K_one {R : RO} {w : World} : ∀ {s : Sh} {x : s.T} {cs : List Value}, s.K R w x cs → ∀ u ∈ cs, u.oneCell' = true
 | .int _, _, _, h, u, hu => by cases h; simp at hu; subst hu; rfl
 | .bool, _, _, h, u, hu => by cases h; simp at hu; subst hu; rfl
 | .str, _, _, h, u, hu => by cases h; simp at hu; subst hu; rfl
 | .pair a b, x, _, ⟨c1, c2, e, h1, h2⟩, u, hu => by
  rw [e, aA] at hu
  rcases hu with hu | hu
  ·exact K_one h1 u hu
  ·exact K_one h2 u hu
 | .sl _, _, _, ⟨A, cap, e, _⟩, u, hu => by rw [e] at hu; simp at hu; subst hu; rfl
 | .fp t, n, cs, h, u, hu => by
  have h' : cs = [.pointer none] ∨ ∃ b : Nat, cs = [.pointer (some ⟨b, 0, none⟩)] := by
   rcases h with ⟨_, e⟩ | ⟨m, b, _, _, e⟩
   ·exact .inl e
   ·exact .inr ⟨b, e⟩
  rcases h' with rfl | ⟨b, rfl⟩ <;> (simp at hu; subst hu; rfl)
 | .arr n e, xs, cs, ⟨h1, h2, h3⟩, u, hu => by
  obtain ⟨j, hj, rfl⟩ := co hu
  have hz : 0 < e.sz := by
   rcases bZ e.sz with h | h
   ·rw [h2, h] at hj; omega
   ·exact h
  have hi : j / e.sz < n := by rw [Nat.div_lt_iff_lt_mul hz]; omega
  have hx : xs[j / e.sz]? = some (xs[j / e.sz]'(by omega)) := ax _
  refine K_one (h3 _ _ hx) _ ?_
  have hm : j % e.sz < e.sz := Nat.mod_lt _ hz
  have hj2 : j / e.sz * e.sz + j % e.sz = j := by rw [Nat.mul_comm]; exact Nat.div_add_mod j e.sz
  have hg : ((cs.drop (j / e.sz * e.sz)).take e.sz)[j % e.sz]? = some cs[j] := by
   rw [aP, if_pos hm, aV, hj2, ax hj]
  exact cE hg
theorem CR.append {I : In} {w : World} : ∀ {a b : List DV} {c d : List Value}, CR I w a c → CR I w b d → CR I w (a ++ b) (c ++ d)
 | _, _, _, _, .nil, h => h
 | _, _, _, _, .one d r u cs h hu hr, k => .one d _ u _ h hu (CR.append hr k)
 | _, _, _, _, .arr s n xs r c cs h h1 hr, k => by
  rw [aI]
  exact .arr s n xs _ c _ h h1 (CR.append hr k)
theorem Sh.enc_ok {I : In} {w : World} : ∀ {s : Sh} {x : s.T} {cs : List Value}, s.K I.R w x cs → CR I w (s.enc x) cs
 | .int k, n, _, h => by cases h; exact .one _ _ _ _ (.sc _ rfl) rfl .nil
 | .bool, b, _, h => by cases h; exact .one _ _ _ _ (.sc _ rfl) rfl .nil
 | .str, s, _, h => by cases h; exact .one _ _ _ _ (.sc _ rfl) rfl .nil
 | .pair a b, x, _, ⟨c1, c2, e, h1, h2⟩ => by rw [e]; exact CR.append (enc_ok h1) (enc_ok h2)
 | .sl e, xs, cs, h => by
  obtain ⟨A, cap, rfl, h2⟩ := id h
  exact .one _ _ _ _ (.vs e xs _ h) rfl .nil
 | .fp t, n, cs, h => by
  have h' := h
  rcases h with ⟨_, rfl⟩ | ⟨m, b, _, _, rfl⟩ <;> exact .one _ _ _ _ (.fp t n _ h') rfl .nil
 | .arr n e, xs, cs, h => by
  have := CR.arr (I := I) (w := w) e n xs [] cs [] h (K_one h) .nil
  simpa [Sh.enc] using this
theorem Sh.enc_imm : ∀ (s : Sh) (x : s.T), ∀ d ∈ s.enc x, d.imm = true
 | .int _, _, d, h => by simp only [Sh.enc, ao] at h; subst h; rfl
 | .bool, _, d, h => by simp only [Sh.enc, ao] at h; subst h; rfl
 | .str, _, d, h => by simp only [Sh.enc, ao] at h; subst h; rfl
 | .pair a b, x, d, h => by
  simp only [Sh.enc, aA] at h
  rcases h with h | h
  ·exact enc_imm a _ d h
  ·exact enc_imm b _ d h
 | .sl _, _, d, h => by simp only [Sh.enc, ao] at h; subst h; rfl
 | .arr _ _, _, d, h => by simp only [Sh.enc, ao] at h; subst h; rfl
 | .fp _, _, d, h => by simp only [Sh.enc, ao] at h; subst h; rfl
theorem E4 {I : In} {w : World} {e : Sh} (f : List DV → Option (e.T × List DV))
  (hf : ∀ {its r : List DV} {x : e.T} {cs : List Value}, f its = some (x, r) → CR I w its cs → ∃ c1 c2, cs = c1 ++ c2 ∧ e.K I.R w x c1 ∧ CR I w r c2) :
  ∀ (n : Nat) {its r : List DV} {xs : List e.T} {cs : List Value}, Cn f n its = some (xs, r) → CR I w its cs → ∃ c1 c2, cs = c1 ++ c2 ∧ (Sh.arr n e).K I.R w xs c1 ∧ CR I w r c2
 | 0, its, r, xs, cs, h, hc => by
  simp only [Cn, ab, ah] at h
  obtain ⟨rfl, rfl⟩ := h
  exact ⟨[], cs, rfl, ⟨rfl, by simp, fun i x hx => by simp at hx⟩, hc⟩
 | n + 1, its, r, xs, cs, h, hc => by
  simp only [Cn] at h
  split at h
  ·rename_i x r1 h1
   split at h
   ·rename_i ys r2 h2
    simp only [ab, ah] at h
    obtain ⟨rfl, rfl⟩ := h
    obtain ⟨c1, c2, rfl, k1, k2⟩ := hf h1 hc
    obtain ⟨d1, d2, rfl, ⟨m1, m2, m3⟩, m4⟩ := E4 f hf n h2 k2
    have hl := Sh.K_len k1
    refine ⟨c1 ++ d1, d2, by simp, ⟨by simp [m1], by simp [m2, hl, bH, bT], fun i y hy => ?_⟩, m4⟩
    cases i with
    | zero =>
     simp only [bu, ab] at hy
     subst hy
     simpa [bC (ba hl.symm), aQ (ba hl)] using k1
    | succ i =>
     simp only [cF] at hy
     have := m3 i y hy
     rw [aK, bT, ← bv, b6 (ba hl.symm), cf (ba hl), bI]
     exact this
   ·cases h
  ·cases h
theorem Sh.dec_ok {I : In} {w : World} : ∀ {s : Sh} {its r : List DV} {x : s.T} {cs : List Value}, s.dec its = some (x, r) → CR I w its cs → ∃ c1 c2, cs = c1 ++ c2 ∧ s.K I.R w x c1 ∧ CR I w r c2
 | .int k, its, r, x, cs, h, hc => by
  simp only [Sh.dec] at h
  split at h
  ·split at h
   ·rename_i k' n r' hk
    simp only [ab, ah] at h
    obtain ⟨rfl, rfl⟩ := h
    subst hk
    cases hc with
    | one _ _ u c2 hv hu hr => cases hv; exact ⟨[_], c2, rfl, rfl, hr⟩
   ·cases h
  ·cases h
 | .bool, its, r, x, cs, h, hc => by
  simp only [Sh.dec] at h
  split at h
  ·simp only [ab, ah] at h
   obtain ⟨rfl, rfl⟩ := h
   cases hc with
   | one _ _ u c2 hv hu hr => cases hv; exact ⟨[_], c2, rfl, rfl, hr⟩
  ·cases h
 | .str, its, r, x, cs, h, hc => by
  simp only [Sh.dec] at h
  split at h
  ·simp only [ab, ah] at h
   obtain ⟨rfl, rfl⟩ := h
   cases hc with
   | one _ _ u c2 hv hu hr => cases hv; exact ⟨[_], c2, rfl, rfl, hr⟩
  ·cases h
 | .pair a b, its, r, x, cs, h, hc => by
  simp only [Sh.dec] at h
  split at h
  ·rename_i x1 r1 h1
   split at h
   ·rename_i y r2 h2
    simp only [ab, ah] at h
    obtain ⟨rfl, rfl⟩ := h
    obtain ⟨c1, c2, rfl, k1, k2⟩ := dec_ok h1 hc
    obtain ⟨d1, d2, rfl, m1, m2⟩ := dec_ok h2 k2
    exact ⟨c1 ++ d1, d2, by simp, ⟨c1, d1, rfl, k1, m1⟩, m2⟩
   ·cases h
  ·cases h
 | .sl e, its, r, x, cs, h, hc => by
  simp only [Sh.dec] at h
  split at h
  ·rename_i e' xs r'
   split at h
   ·rename_i hs hq
    cases hs
    simp only [ab, ah] at h
    obtain ⟨rfl, rfl⟩ := h
    cases hc with
    | one _ _ u c2 hv hu hr => cases hv with | vs _ _ _ hk => exact ⟨[u], c2, rfl, hk, hr⟩
   ·cases h
  ·rename_i n cap r'
   split at h
   ·rename_i hn
    subst hn
    simp only [ab, ah] at h
    obtain ⟨rfl, rfl⟩ := h
    cases hc with
    | one _ _ u c2 hv hu hr => cases hv; exact ⟨[_], c2, rfl, ⟨none, cap, rfl, ay _, fun h => absurd rfl h⟩, hr⟩
   ·cases h
  ·cases h
 | .fp t, its, r, x, cs, h, hc => by
  simp only [Sh.dec] at h
  split at h
  ·split at h
   ·rename_i t' n r' ht
    subst ht
    simp only [ab, ah] at h
    obtain ⟨rfl, rfl⟩ := h
    cases hc with
    | one _ _ u c2 hv hu hr => cases hv with | fp _ _ _ hk => exact ⟨[u], c2, rfl, hk, hr⟩
   ·cases h
  ·simp only [ab, ah] at h
   obtain ⟨rfl, rfl⟩ := h
   cases hc with
   | one _ _ u c2 hv hu hr => cases hv; exact ⟨[_], c2, rfl, .inl ⟨rfl, rfl⟩, hr⟩
  ·cases h
 | .arr n e, its, r, x, cs, h, hc => by
  simp only [Sh.dec] at h
  split at h
  ·rename_i e' n' xs r'
   split at h
   ·rename_i hn
    subst hn
    split at h
    ·rename_i hs hq
     cases hs
     simp only [ab, ah] at h
     obtain ⟨rfl, rfl⟩ := h
     cases hc with
     | one _ _ u c2 hv hu hr => cases hv
     | arr _ _ _ _ c c2 hk h1 hr => exact ⟨c, c2, rfl, hk, hr⟩
    ·cases h
   ·cases h
  ·exact E4 _ (fun h1 h2 => dec_ok h1 h2) n h hc
end Go.Proofs.Dk
namespace Go.Proofs.Dk
open Go Go.RowKit
variable {I : In} {w : World}
theorem CR.len : ∀ {its : List DV} {cs : List Value}, CR I w its cs → cs.length = p7 its
  | _, _, .nil => rfl
  | _, _, .one d r u cs h hu hr => by
    have := CR.len hr
    cases h <;> simp [p7, DV.wd, this, bT]
  | _, _, .arr s n xs r c cs h h1 hr => by
    have := CR.len hr
    have h2 : c.length = n * s.sz := Sh.K_len h
    simp [p7, DV.wd, this, h2]
theorem CR.ones : ∀ {its : List DV} {cs : List Value}, CR I w its cs → ∀ u ∈ cs, u.oneCell' = true
  | _, _, .nil, u, hu => by cases hu
  | _, _, .one d r v cs h hv hr, u, hu => by
    rcases aB.1 hu with rfl | hu
    · exact hv
    · exact CR.ones hr u hu
  | _, _, .arr s n xs r c cs h h1 hr, u, hu => by
    rcases aA.1 hu with hu | hu
    · exact h1 u hu
    · exact CR.ones hr u hu
theorem CR.head {d : DV} {r : List DV} {cs : List Value} (h : CR I w (d :: r) cs) : ∃ c1 c2, cs = c1 ++ c2 ∧ c1.length = d.wd ∧ CR I w [d] c1 ∧ CR I w r c2 := by
  cases h with
  | one _ _ u c hv hu hr =>
    refine ⟨[u], c, rfl, ?_, .one _ _ _ _ hv hu .nil, hr⟩
    cases hv <;> rfl
  | arr s n xs _ c c2 hk h1 hr =>
    refine ⟨c, c2, rfl, Sh.K_len hk, ?_, hr⟩
    have := CR.arr (I := I) (w := w) s n xs [] c [] hk h1 .nil
    simpa using this
theorem CR.cons {d : DV} {r : List DV} {c1 c2 : List Value} (h : CR I w [d] c1) (hr : CR I w r c2) : CR I w (d :: r) (c1 ++ c2) := by
  have := CR.append h hr
  simpa using this
theorem md : ∀ {its : List DV} {o : Nat} {r : List DV} {cs : List Value}, jJ o its = some r → CR I w its cs → ∃ c1 c2, cs = c1 ++ c2 ∧ c1.length = o ∧ CR I w (Ga o its) c1 ∧ CR I w r c2
  | [], o, r, cs, h, hc => by
    simp only [jJ] at h
    split at h
    · rename_i ho
      simp only [ab] at h
      subst h ho
      exact ⟨[], cs, rfl, rfl, .nil, hc⟩
    · cases h
  | d :: l, o, r, cs, h, hc => by
    simp only [jJ] at h
    split at h
    · rename_i ho
      simp only [ab] at h
      subst h ho
      exact ⟨[], cs, rfl, rfl, .nil, hc⟩
    · rename_i ho
      split at h
      · rename_i hw
        obtain ⟨c1, c2, rfl, hl, h1, h2⟩ := hc.head
        obtain ⟨d1, d2, rfl, hm, k1, k2⟩ := md h h2
        refine ⟨c1 ++ d1, d2, by simp, by simp [hl, hm]; omega, ?_, k2⟩
        simp only [Ga, ho, aC]
        exact h1.cons k1
      · cases h
theorem me : ∀ {its : List DV} {n : Nat} {l : List DV} {cs : List Value}, nM n its = some l → CR I w its cs → ∃ c1 c2, cs = c1 ++ c2 ∧ c1.length = n ∧ CR I w l c1
  | [], n, l, cs, h, hc => by
    simp only [nM] at h
    split at h
    · rename_i ho
      simp only [ab] at h
      subst h ho
      exact ⟨[], cs, rfl, rfl, .nil⟩
    · cases h
  | d :: r, n, l, cs, h, hc => by
    simp only [nM] at h
    split at h
    · rename_i ho
      simp only [ab] at h
      subst h ho
      exact ⟨[], cs, rfl, rfl, .nil⟩
    · rename_i ho
      split at h
      · rename_i hw
        split at h
        · rename_i l' hl'
          simp only [ab] at h
          subst h
          obtain ⟨c1, c2, rfl, hl, h1, h2⟩ := hc.head
          obtain ⟨d1, d2, rfl, hm, k1⟩ := me hl' h2
          exact ⟨c1 ++ d1, d2, by simp, by simp [hl, hm]; omega, h1.cons k1⟩
        · cases h
      · cases h
def dK (cs : List Value) (o : Nat) (d : List Value) : List Value := cs.take o ++ d ++ cs.drop (o + d.length)
theorem iJ {cs d : List Value} {o : Nat} (h : o + d.length ≤ cs.length) : (dK cs o d).length = cs.length := by
  simp [dK]; omega
theorem iV {c1 c2 d : List Value} {o : Nat} : dK (c1 ++ c2) (c1.length + o) d = c1 ++ dK c2 o d := by
  simp only [dK]
  rw [bD, List.take_length_add_append, List.drop_length_add_append]
  simp
theorem ot {c1 c2 d : List Value} {o : Nat} (h : o + d.length ≤ c1.length) : dK (c1 ++ c2) o d = dK c1 o d ++ c2 := by
  simp only [dK]
  rw [bC (by omega), b6 (by omega)]
  simp
theorem yp {c d : List Value} {i sz o : Nat} (h : o + d.length ≤ sz) (hle : i + sz ≤ c.length) : dK c i (dK ((c.drop i).take sz) o d) = dK c (i + o) d := by
  obtain ⟨a, m, z, rfl, ha, hm⟩ : ∃ a m z, c = a ++ (m ++ z) ∧ a.length = i ∧ m.length = sz :=
    ⟨c.take i, (c.drop i).take sz, (c.drop i).drop sz, by rw [bE, bE], by simp; omega, by simp; omega⟩
  subst ha hm
  have e1 : ((a ++ (m ++ z)).drop a.length).take m.length = m := by simp
  rw [e1, iV, ot h]
  have := iJ h
  simp only [dK] at this ⊢
  have e2 : (a ++ (m ++ z)).drop (a.length + (List.take o m ++ d ++ List.drop (o + d.length) m).length) = z := by
    rw [List.drop_length_add_append, this]
    simp
  rw [e2]
  simp
theorem zQ : ∀ {old new l : List DV} {c d : List Value}, pC old new = some l → CR I w old c → CR I w new d → d.length ≤ c.length ∧ CR I w l (d ++ c.drop d.length)
  | old, [], l, c, d, h, hc, hd => by
    cases hd
    cases old <;> (simp only [pC, ab] at h; subst h; exact ⟨ay _, by simpa using hc⟩)
  | [], x :: new, l, c, d, h, hc, hd => by simp [pC] at h
  | o :: r, x :: new, l, c, d, h, hc, hd => by
    obtain ⟨c1, c2, rfl, hl, h1, h2⟩ := hc.head
    by_cases ho : ∃ s n xs, o = .arr s n xs
    · obtain ⟨s, n, xs, rfl⟩ := ho
      simp only [pC] at h
      split at h
      · rename_i ys new' hy
        split at h
        · rename_i l' hl'
          simp only [ab] at h
          subst h
          obtain ⟨d1, d2, rfl, k1, k2⟩ := Sh.dec_ok hy hd
          obtain ⟨m1, m2⟩ := zQ hl' h2 k2
          have e1 : d1.length = n * s.sz := Sh.K_len k1
          have e2 : c1.length = n * s.sz := hl
          refine ⟨by simp; omega, ?_⟩
          have := CR.arr (I := I) (w := w) s n ys _ d1 _ k1 (Sh.K_one k1) m2
          have e3 : (d1 ++ d2) ++ (c1 ++ c2).drop (d1 ++ d2).length = d1 ++ (d2 ++ c2.drop d2.length) := by
            rw [aF, aI, show d1.length + d2.length = c1.length + d2.length by omega, ← bv]
            simp
          rw [e3]
          exact this
        · cases h
      · cases h
    · have hnx : ∀ s n xs, x ≠ .arr s n xs := by
        rintro s n xs rfl
        cases o <;> first | exact absurd ⟨_, _, _, rfl⟩ ho | (simp [pC] at h)
      have hp : ∃ l', pC r new = some l' ∧ l = x :: l' := by
        cases o <;> first
          | exact absurd ⟨_, _, _, rfl⟩ ho
          | (cases x <;> first
              | exact absurd rfl (hnx _ _ _)
              | (simp only [pC] at h
                 split at h
                 · rename_i l' hl'
                   simp only [ab] at h
                   exact ⟨l', hl', h.symm⟩
                 · cases h))
      obtain ⟨l', hl', rfl⟩ := hp
      cases hd with
      | arr s n xs _ _ _ _ _ _ => exact absurd rfl (hnx s n xs)
      | one _ _ u d2 hv hu hr =>
        obtain ⟨m1, m2⟩ := zQ hl' h2 hr
        have hc1 : c1.length = 1 := by
          rw [hl]
          cases o <;> first | rfl | exact absurd ⟨_, _, _, rfl⟩ ho
        obtain ⟨u0, rfl⟩ : ∃ u0, c1 = [u0] := by
          match c1, hc1 with
          | [u0], _ => exact ⟨u0, rfl⟩
        exact ⟨by simpa using m1, by simpa using .one _ _ _ _ hv hu m2⟩
theorem getD_some {α : Type} (xs : List α) (i : Nat) (d : α) (h : i < xs.length) : xs[i]? = some (xs.getD i d) := by
  rw [ax h, aq, ax h]
  rfl
theorem p9 : ∀ {p : List Ix} {its its' : List DV} {cs : List Value}, pY its p = some its' → lW p → CR I w its cs → ∃ cs', CR I w its' cs' ∧ ∀ (j : Nat) (u : Value), cs'[j]? = some u → cs[dO p + j]? = some u
  | [], its, its', cs, h, _, hc => by
    simp only [pY, ab] at h
    subst h
    exact ⟨cs, hc, fun j u hu => by simpa [dO] using hu⟩
  | .off k :: p, its, its', cs, h, hp, hc => by
    simp only [pY] at h
    split at h
    · rename_i r hr
      obtain ⟨c1, c2, rfl, hl, _, h2⟩ := md hr hc
      obtain ⟨cs', k1, k2⟩ := p9 h hp h2
      refine ⟨cs', k1, fun j u hu => ?_⟩
      have := k2 j u hu
      simp only [dO]
      rw [aW (by omega), ← this]
      congr 1
      omega
    · cases h
  | .ix i m sz :: p, its, its', cs, h, hp, hc => by
    simp only [pY] at h
    split at h
    · rename_i s m' ys r
      split at h
      · rename_i hm
        subst hm
        split at h
        · rename_i hz
          subst hz
          cases hc with
          | one _ _ u c2 hv hu hr => cases hv
          | arr _ _ _ _ c c2 hk h1 hr =>
            obtain ⟨k1, k2, k3⟩ := hk
            have hi : i < ys.length := by rw [k1]; exact hp.1
            have hx := k3 i _ (getD_some ys i s.dflt hi)
            obtain ⟨cs', g1, g2⟩ := p9 h hp.2 (Sh.enc_ok hx)
            refine ⟨cs', g1, fun j u hu => ?_⟩
            have h3 := g2 j u hu
            rw [aP] at h3
            split at h3
            · rename_i hlt
              rw [aV] at h3
              simp only [dO]
              rw [aO (by
                have := (List.getElem?_eq_some_iff.1 h3).1
                omega), ← h3]
              congr 1
              omega
            · cases h3
        · cases h
      · cases h
    · cases h
theorem L7 {R : RO} {s : Sh} {n : Nat} {xs : List s.T} {c d : List Value} {i : Nat} {y : s.T} (h : (Sh.arr n s).K R w xs c) (hi : i < n) (hd : s.K R w y d) : (Sh.arr n s).K R w (xs.set i y) (dK c (i * s.sz) d) ∧ i * s.sz + d.length ≤ c.length := by
  obtain ⟨h1, h2, h3⟩ := h
  have hl := Sh.K_len hd
  have hle : i * s.sz + s.sz ≤ n * s.sz := by
    rw [← aK]
    exact aS _ hi
  refine ⟨⟨by simp [h1], by rw [iJ (by omega)]; exact h2, fun j x hx => ?_⟩, by omega⟩
  have hlen : (c.take (i * s.sz)).length = i * s.sz := by simp; omega
  by_cases e : j = i
  · subst e
    have hx2 : x = y := by
      have hj : j < xs.length := by omega
      simpa [b7, hj] using hx.symm
    subst hx2
    have e1 : ((dK c (j * s.sz) d).drop (j * s.sz)).take s.sz = d := by
      simp only [dK]
      rw [aI, b6 (by omega), cf (by omega), bI, bC (by omega), aQ (by omega)]
    rw [e1]
    exact hd
  · rw [b7, if_neg (Ne.symm e)] at hx
    have h4 := h3 j x hx
    have e1 : ((dK c (i * s.sz) d).drop (j * s.sz)).take s.sz = (c.drop (j * s.sz)).take s.sz := by
      apply cq
      intro q
      simp only [aP, aV]
      split
      · rename_i hq
        have hj : j < n := by
          have := (List.getElem?_eq_some_iff.1 hx).1
          omega
        simp only [dK]
        rcases Nat.lt_or_gt_of_ne e with hlt | hgt
        · have : j * s.sz + s.sz ≤ i * s.sz := by rw [← aK]; exact aS _ hlt
          rw [aI, aO (by omega), aP, if_pos (by omega)]
        · have : i * s.sz + s.sz ≤ j * s.sz := by rw [← aK]; exact aS _ hgt
          rw [aW (by simp; omega), aV]
          congr 1
          simp
          omega
      · rfl
    rw [e1]
    exact h4
theorem n7 : ∀ {p : List Ix} {its its' new : List DV} {cs d : List Value}, oj new p its = some its' → lW p → CR I w its cs → CR I w new d → dO p + d.length ≤ cs.length ∧ CR I w its' (dK cs (dO p) d)
  | [], its, its', new, cs, d, h, _, hc, hd => by
    simp only [oj] at h
    obtain ⟨h1, h2⟩ := zQ h hc hd
    exact ⟨by simpa [dO] using h1, by simpa [dO, dK] using h2⟩
  | .off k :: p, its, its', new, cs, d, h, hp, hc, hd => by
    simp only [oj] at h
    split at h
    · rename_i r hr
      split at h
      · rename_i l hl
        simp only [ab] at h
        subst h
        obtain ⟨c1, c2, rfl, hlen, h1, h2⟩ := md hr hc
        obtain ⟨k1, k2⟩ := n7 hl hp h2 hd
        refine ⟨by simp [dO]; omega, ?_⟩
        have e : dK (c1 ++ c2) (k + dO p) d = c1 ++ dK c2 (dO p) d := by rw [← hlen, iV]
        simp only [dO]
        rw [e]
        exact h1.append k2
      · cases h
    · cases h
  | .ix i m sz :: p, its, its', new, cs, d, h, hp, hc, hd => by
    simp only [oj] at h
    split at h
    · rename_i s m' ys r
      split at h
      · rename_i hm
        subst hm
        split at h
        · rename_i hz
          subst hz
          split at h
          · rename_i l hl
            split at h
            · rename_i y hy
              simp only [ab] at h
              subst h
              cases hc with
              | one _ _ u c2 hv hu hr => cases hv
              | arr _ _ _ _ c c2 hk h1 hr =>
                obtain ⟨k1, k2, k3⟩ := id hk
                have hi : i < ys.length := by rw [k1]; exact hp.1
                have hx := k3 i _ (getD_some ys i s.dflt hi)
                obtain ⟨g1, g2⟩ := n7 hl hp.2 (Sh.enc_ok hx) hd
                obtain ⟨d1, d2, e1, e2, e3⟩ := Sh.dec_ok hy g2
                cases e3
                rw [aG] at e1
                subst e1
                obtain ⟨q1, q2⟩ := L7 hk hp.1 e2
                have hle : i * s.sz + s.sz ≤ m' * s.sz := by rw [← aK]; exact aS _ hp.1
                have hlx := Sh.K_len hx
                have hb : i * s.sz + dO p + d.length ≤ c.length := by omega
                have hs : dK c (i * s.sz) (dK ((c.drop (i * s.sz)).take s.sz) (dO p) d) = dK c (i * s.sz + dO p) d := yp (by omega) (by omega)
                refine ⟨by simp [dO]; omega, ?_⟩
                simp only [dO]
                rw [ot hb, ← hs]
                exact .arr s m' _ _ _ _ q1 (Sh.K_one q1) hr
            · cases h
          · cases h
        · cases h
      · cases h
    · cases h
theorem E5 {P : Program} {t : TypeId} {its : List DV} {v : DV} {cs : List Value} (h : nB P t its = some v) (hc : CR I w its cs) :
    (fP P t = true ∧ VR I w v (.agg cs.toArray)) ∨ (fP P t = false ∧ (P.underlying t).isSome = true ∧ ∃ u, cs = [u] ∧ VR I w v u ∧ u.oneCell' = true) := by
  unfold nB at h
  split at h
  · rename_i hm
    simp only [ab] at h
    subst h
    exact .inl ⟨hm, .agg _ _ (by simpa using hc)⟩
  · rename_i hm
    split at h
    · rename_i hud
      split at h
      · cases h
      · rename_i d hd
        simp only [ab] at h
        subst h
        cases hc with
        | arr s n xs _ _ _ _ _ _ => exact absurd rfl (hd s n xs)
        | one _ _ u c2 hv hu hr => cases hr; exact .inr ⟨by simpa using hm, hud, u, rfl, hv, hu⟩
      · cases h
    · cases h
theorem vF : ∀ {l : List (Option (Nat × Sh))} {its out : List DV} {cs : List Value}, pD l its = some out → CR I w its cs → CR I w out cs
  | [], its, out, cs, h, hc => by
    cases its with
    | nil => simp only [pD, ab] at h; subst h; exact hc
    | cons a b => simp [pD] at h
  | none :: l, its, out, cs, h, hc => by
    simp only [pD] at h
    split at h
    · cases h
    · rename_i x r hx
      split at h
      · rename_i l' hl'
        simp only [ab] at h
        subst h
        obtain ⟨c1, c2, rfl, _, h1, h2⟩ := hc.head
        exact h1.cons (vF hl' h2)
      · cases h
    · cases h
  | some (m, s) :: l, its, out, cs, h, hc => by
    simp only [pD] at h
    split at h
    · rename_i ys r hy
      split at h
      · rename_i l' hl'
        simp only [ab] at h
        subst h
        obtain ⟨d1, d2, rfl, k1, k2⟩ := Sh.dec_ok hy hc
        exact .arr s m ys _ _ _ k1 (Sh.K_one k1) (vF hl' k2)
      · cases h
    · cases h
end Go.Proofs.Dk
namespace Go.Proofs.Dk
open Go Go.RowKit
theorem tr : ∀ (ks : List (List Int)) (vs : List DV) (n : Int), d6 ks (iG vs) n = (d6 ks vs n).map DV.bare
 | [], vs, n => by cases vs <;> rfl
 | l :: ks, [], n => rfl
 | l :: ks, v :: vs, n => by
  simp only [iG, d6]
  split
  ·rfl
  ·exact tr ks vs n
theorem kB {m : Nat} {g : Sub} : ∀ (ks : List (List Int)) (vs : List DV) (n : Int), d6 ks (d9 m g vs) n = (d6 ks vs n).map (DV.sub m g)
 | [], vs, n => by cases vs <;> rfl
 | l :: ks, [], n => rfl
 | l :: ks, v :: vs, n => by
  simp only [d9, d6]
  split
  ·rfl
  ·exact kB ks vs n
section
variable {I I' : In} {w w' : World}
structure Same (I I' : In) (w w' : World) : Prop where
 keeps : Keeps I.R I'.R w w'
 obj : ∀ n b, I.ι n = some (.obj b) → I'.ι n = some (.obj b)
 row : ∀ n sz v, I.ι n = some (.row sz v) → I'.ι n = some (.row sz v)
theorem jK (hk : Keeps I.R I'.R w w') : ∀ {d : List DV} {v : List Value}, CR I w d v → (∀ x ∈ d, x.imm = true) → CR I' w' d v
 | _, _, .nil, _ => .nil
 | _, _, .one d r u cs h hu hr, hi => by
  have h1 := hi d (aD ..)
  refine .one d r u cs ?_ hu (jK hk hr (fun x hx => hi x (az _ hx)))
  cases h with
  | sc _ h => exact .sc _ h
  | vs s xs _ h => exact .vs s xs _ (Sh.K_keep hk h)
  | fp t n _ h => exact .fp t n _ (Sh.K_keep hk h)
  | _ => cases h1
 | _, _, .arr s n xs r c cs h h1 hr, hi => .arr s n xs r c cs (Sh.K_keep hk h) h1 (jK hk hr (fun x hx => hi x (az _ hx)))
mutual
theorem VR.keep (hs : Same I I' w w') : ∀ {d : DV} {v : Value}, VR I w d v → VR I' w' d v
 | _, _, .undef v => .undef v
 | _, _, .sc v h => .sc v h
 | _, _, .ptr n o p b h hp => .ptr n o p b (hs.obj _ _ h) hp
 | _, _, .rp n sz i p b len cap h hi hp => .rp n sz i p b len cap (hs.row _ _ _ h) hi hp
 | _, _, .pi its a cs h0 hR him h hc => .pi its a cs h0 (hs.keeps.sub _ hR) him (jK hs.keeps h him) (fun j u hu => (kJ (by rw [gp]; exact hs.keeps.same _ hR)).trans (hc j u hu))
 | _, _, .rw n sz v h h2 => .rw n sz v (hs.row _ _ _ h) h2
 | _, _, .sl n o l sz A A' len cap cap' h hl h0 h1 hc => .sl n o l sz A A' len cap cap' (hs.row _ _ _ h) hl h0 h1 hc
 | _, _, .vs s xs v h => .vs s xs v (Sh.K_keep hs.keeps h)
 | _, _, .fn F a b a' b' h1 h2 => .fn F a b a' b' (LR.keep hs h1) (LR.keep hs h2)
 | _, _, .agg ds cs h => .agg ds cs (CR.keep hs h)
 | _, _, .tup ds vs h => .tup ds vs (LR.keep hs h)
 | _, _, .tab ks vs us b es cl hR hb hE h => .tab ks vs us b es cl (hs.keeps.sub _ hR) ((hs.keeps.same _ hR).trans hb) hE (fun n d hp => VR.keep hs (h n d hp))
 | _, _, .mh n b h => .mh n b (hs.obj _ _ h)
 | _, _, .fp t n v h => .fp t n v (Sh.K_keep hs.keeps h)
 | _, _, .ps n o p m l b cap h hp hl hm => .ps n o p m l b cap (hs.obj _ _ h) hp hl hm
theorem CR.keep (hs : Same I I' w w') : ∀ {d : List DV} {v : List Value}, CR I w d v → CR I' w' d v
 | _, _, .nil => .nil
 | _, _, .one d r u cs h hu hr => .one d r u cs (VR.keep hs h) hu (CR.keep hs hr)
 | _, _, .arr s n xs r c cs h h1 hr => .arr s n xs r c cs (Sh.K_keep hs.keeps h) h1 (CR.keep hs hr)
theorem LR.keep (hs : Same I I' w w') : ∀ {d : List DV} {v : List Value}, LR I w d v → LR I' w' d v
 | _, _, .nil => .nil
 | _, _, .cons d r u vs h hr => .cons d r u vs (VR.keep hs h) (LR.keep hs hr)
end
structure ObjS (I I' : In) (w w' : World) : Prop where
 keeps : Keeps I.R I'.R w w'
 obj : ∀ n b, I.ι n = some (.obj b) → I'.ι n = some (.obj b)
mutual
theorem VR.bare (hs : ObjS I I' w w') : ∀ {d : DV} {v : Value}, VR I w d v → VR I' w' d.bare v
 | _, _, .undef v => .undef v
 | _, _, .sc v h => .sc v h
 | _, _, .ptr n o p b h hp => .ptr n o p b (hs.obj _ _ h) hp
 | _, _, .rp n sz i p b len cap h hi hp => .undef _
 | _, _, .pi its a cs h0 hR him h hc => .pi its a cs h0 (hs.keeps.sub _ hR) him (jK hs.keeps h him) (fun j u hu => (kJ (by rw [gp]; exact hs.keeps.same _ hR)).trans (hc j u hu))
 | _, _, .rw n sz v h h2 => .undef _
 | _, _, .sl n o l sz A A' len cap cap' h hl h0 h1 hc => .undef _
 | _, _, .vs s xs v h => .vs s xs v (Sh.K_keep hs.keeps h)
 | _, _, .fn F a b a' b' h1 h2 => .fn F _ _ a' b' (LR.bare hs h1) (LR.bare hs h2)
 | _, _, .agg ds cs h => .agg _ cs (CR.bare hs h)
 | _, _, .tup ds vs h => .tup _ vs (LR.bare hs h)
 | _, _, .tab ks vs us b es cl hR hb hE h => .tab ks _ us b es cl (hs.keeps.sub _ hR) ((hs.keeps.same _ hR).trans hb) (hE.map (tr ks vs)) (fun n d hp => by
   rw [tr] at hp
   obtain ⟨d0, h0, rfl⟩ := Option.map_eq_some_iff.1 hp
   exact VR.bare hs (h n d0 h0))
 | _, _, .mh n b h => .mh n b (hs.obj _ _ h)
 | _, _, .fp t n v h => .fp t n v (Sh.K_keep hs.keeps h)
 | _, _, .ps n o p m l b cap h hp hl hm => .ps n o p m l b cap (hs.obj _ _ h) hp hl hm
theorem CR.bare (hs : ObjS I I' w w') : ∀ {d : List DV} {v : List Value}, CR I w d v → CR I' w' (iG d) v
 | _, _, .nil => .nil
 | _, _, .one d r u cs h hu hr => .one _ _ u cs (VR.bare hs h) hu (CR.bare hs hr)
 | _, _, .arr s n xs r c cs h h1 hr => .arr s n xs _ c cs (Sh.K_keep hs.keeps h) h1 (CR.bare hs hr)
theorem LR.bare (hs : ObjS I I' w w') : ∀ {d : List DV} {v : List Value}, LR I w d v → LR I' w' (iG d) v
 | _, _, .nil => .nil
 | _, _, .cons d r u vs h hr => .cons _ _ u vs (VR.bare hs h) (LR.bare hs hr)
end
structure But (n : Nat) (g : Sub) (I I' : In) (w w' : World) : Prop where
 keeps : Keeps I.R I'.R w w'
 obj : ∀ m b, I.ι m = some (.obj b) → I'.ι m = some (.obj b)
 row : ∀ m sz v, m ≠ n → I.ι m = some (.row sz v) → I'.ι m = some (.row sz v)
 sub : ∀ s xs, g = .vs s xs → ∀ sz v, I.ι n = some (.row sz v) → sz = s.sz ∧ (Sh.sl s).K I'.R w' xs [v]
theorem Ng {R : RO} {s : Sh} {xs : List s.T} {A A' : Option Addr} {len cap cap' o l : Nat} (h : (Sh.sl s).K R w xs [.slice A len cap]) (hl : o + l ≤ len) (h1 : 0 < l → ∃ b, A = some ⟨b, 0, none⟩ ∧ A' = some ⟨b, o * s.sz, none⟩) (hc : l ≤ cap') : (Sh.sl s).K R w ((xs.drop o).take l) [.slice A' l cap'] := by
 obtain ⟨A0, cap0, e, h2, h3⟩ := h
 simp only [bm, Value.slice.injEq, aZ] at e
 obtain ⟨rfl, rfl, rfl⟩ := e
 have hlen : ((xs.drop o).take l).length = l := by simp; omega
 refine ⟨A', cap', by rw [hlen], by omega, fun hn => ?_⟩
 have hlp : 0 < l := by
  rcases bZ l with h0 | h0
  ·exact absurd (bn (by omega)) hn
  ·exact h0
 obtain ⟨b, rfl, rfl⟩ := h1 hlp
 have hx : xs ≠ [] := by
  intro e
  rw [e] at hl
  simp at hl
  omega
 obtain ⟨a, e1, e2, e3, e4⟩ := h3 hx
 simp only [ab] at e1
 subst e1
 refine ⟨_, rfl, rfl, e3, fun i x hx => ?_⟩
 have hx2 : xs[o + i]? = some x := by
  rw [aP] at hx
  split at hx
  ·rw [aV] at hx
   exact hx
  ·cases hx
 obtain ⟨c, g1, g2, g3⟩ := e4 _ x hx2
 refine ⟨c, g1, g2, fun j u hu => ?_⟩
 have := g3 j u hu
 rw [Addr.add_mid] at this ⊢
 rw [← this]
 congr 2
 rw [bH]
 omega
mutual
theorem VR.sub {n : Nat} {g : Sub} (hs : But n g I I' w w') : ∀ {d : DV} {v : Value}, VR I w d v → VR I' w' (d.sub n g) v
 | _, _, .undef v => .undef v
 | _, _, .sc v h => .sc v h
 | _, _, .ptr m o p b h hp => .ptr m o p b (hs.obj _ _ h) hp
 | _, _, .rp m sz i p b len cap h hi hp => by
  simp only [DV.sub]
  split
  ·exact .undef _
  ·rename_i hm
   exact .rp m sz i p b len cap (hs.row _ _ _ hm h) hi hp
 | _, _, .pi its a cs h0 hR him h hc => .pi its a cs h0 (hs.keeps.sub _ hR) him (jK hs.keeps h him) (fun j u hu => (kJ (by rw [gp]; exact hs.keeps.same _ hR)).trans (hc j u hu))
 | _, _, .rw m sz v h h2 => by
  simp only [DV.sub]
  split
  ·rename_i hm
   subst hm
   cases g with
   | none => exact .undef _
   | vs s xs => exact .vs s xs v (hs.sub s xs rfl _ _ h).2
  ·rename_i hm
   exact .rw m sz v (hs.row _ _ _ hm h) h2
 | _, _, .sl m o l sz A A' len cap cap' h hl h0 h1 hc => by
  simp only [DV.sub]
  split
  ·rename_i hm
   subst hm
   cases g with
   | none => exact .undef _
   | vs s xs =>
    obtain ⟨rfl, hk⟩ := hs.sub s xs rfl _ _ h
    exact .vs s _ _ (Ng hk hl h1 hc)
  ·rename_i hm
   exact .sl m o l sz A A' len cap cap' (hs.row _ _ _ hm h) hl h0 h1 hc
 | _, _, .vs s xs v h => .vs s xs v (Sh.K_keep hs.keeps h)
 | _, _, .fn F a b a' b' h1 h2 => .fn F _ _ a' b' (LR.sub hs h1) (LR.sub hs h2)
 | _, _, .agg ds cs h => .agg _ cs (CR.sub hs h)
 | _, _, .tup ds vs h => .tup _ vs (LR.sub hs h)
 | _, _, .tab ks vs us b es cl hR hb hE h => .tab ks _ us b es cl (hs.keeps.sub _ hR) ((hs.keeps.same _ hR).trans hb) (hE.map (kB ks vs)) (fun m d hp => by
   rw [kB] at hp
   obtain ⟨d0, h0, rfl⟩ := Option.map_eq_some_iff.1 hp
   exact VR.sub hs (h m d0 h0))
 | _, _, .mh m b h => .mh m b (hs.obj _ _ h)
 | _, _, .fp t n v h => .fp t n v (Sh.K_keep hs.keeps h)
 | _, _, .ps n o p m l b cap h hp hl hm => .ps n o p m l b cap (hs.obj _ _ h) hp hl hm
theorem CR.sub {n : Nat} {g : Sub} (hs : But n g I I' w w') : ∀ {d : List DV} {v : List Value}, CR I w d v → CR I' w' (d9 n g d) v
 | _, _, .nil => .nil
 | _, _, .one d r u cs h hu hr => .one _ _ u cs (VR.sub hs h) hu (CR.sub hs hr)
 | _, _, .arr s m xs r c cs h h1 hr => .arr s m xs _ c cs (Sh.K_keep hs.keeps h) h1 (CR.sub hs hr)
theorem LR.sub {n : Nat} {g : Sub} (hs : But n g I I' w w') : ∀ {d : List DV} {v : List Value}, LR I w d v → LR I' w' (d9 n g d) v
 | _, _, .nil => .nil
 | _, _, .cons d r u vs h hr => .cons _ _ u vs (VR.sub hs h) (LR.sub hs hr)
end
end
def MR (I : In) (w : World) (n : Nat) (ks : List (List Int)) (vs : List DV) : Prop := ∃ b es clock val, I.ι n = some (.obj b) ∧ w.heap[b]? = some (.map es clock) ∧ TabE ks vs val es.toList ∧ ∀ m d, d6 ks vs m = some d → VR I w d (val m)
theorem MR.keep {I I' : In} {w w' : World} {n : Nat} {ks : List (List Int)} {vs : List DV} (hs : Same I I' w w') (h : MR I w n ks vs) (hb : ∀ b, I.ι n = some (.obj b) → w'.heap[b]? = w.heap[b]?) : MR I' w' n ks vs := by
 obtain ⟨b, es, cl, val, h1, h2, h3, h4⟩ := h
 exact ⟨b, es, cl, val, hs.obj _ _ h1, (hb b h1).trans h2, h3, fun m d hd => VR.keep hs (h4 m d hd)⟩
theorem MR.sub {I I' : In} {w w' : World} {n m : Nat} {g : Sub} {ks : List (List Int)} {vs : List DV} (hs : But m g I I' w w') (h : MR I w n ks vs) (hb : ∀ b, I.ι n = some (.obj b) → w'.heap[b]? = w.heap[b]?) : MR I' w' n ks (d9 m g vs) := by
 obtain ⟨b, es, cl, val, h1, h2, h3, h4⟩ := h
 refine ⟨b, es, cl, val, hs.obj _ _ h1, (hb b h1).trans h2, h3.map (kB ks vs), fun j d hd => ?_⟩
 rw [kB] at hd
 obtain ⟨d0, h0, rfl⟩ := Option.map_eq_some_iff.1 hd
 exact VR.sub hs (h4 j d0 h0)
def MemR (R : RO) (w : World) (k : List EK) (x : f9 k) (b : Nat) (B : Nat → Prop) : Prop := ∃ ι : Nat → Option Ent, ι 0 = some (.obj b) ∧
 (∃ c t, w.heap[b]? = some (.cells c t (0, 0)) ∧ CR ⟨ι, R⟩ w (iq nam0 1000 (k.map dz) (tf k x)) c.toList) ∧
 (∀ n E s xs, el nam0 1000 (k.map dz) (tf k x) (fun _ => none) n = some (.row E s xs) → ∃ v cs, ι n = some (.row s.sz v) ∧ w.ownsRow 0 E s.sz v xs.length cs ∧ (Sh.arr xs.length s).K R w xs cs) ∧
 (∀ n, n ≠ 0 → el nam0 1000 (k.map dz) (tf k x) (fun _ => none) n = none → ι n = none) ∧
 (∀ n m e e' b, ι n = some e → ι m = some e' → e.has b → e'.has b → n = m) ∧
 (∀ n e b, ι n = some e → e.has b → B b) ∧ ∀ n t B', ι n ≠ some (.fam t B')
def FamR (I : In) (w : World) (n : Nat) (t : TypeId) (k : List EK) (xs : List (f9 k)) : Prop := ∃ B, I.ι n = some (.fam t B) ∧ (I.R.fam t).length = xs.length ∧
 (∀ i x b, xs[i]? = some x → (I.R.fam t)[i]? = some b → MemR I.R w k x b (B i)) ∧ (∀ i j c, B i c → B j c → i = j) ∧ ∀ i c, B i c → i < xs.length
structure HR (I : In) (w : World) (H : Heap) : Prop where
 obj : ∀ n cs, H n = some (.obj cs) → ∃ b c t, I.ι n = some (.obj b) ∧ w.heap[b]? = some (.cells c t (0, 0)) ∧ CR I w cs c.toList
 row : ∀ n E s xs, H n = some (.row E s xs) → ∃ v cs, I.ι n = some (.row s.sz v) ∧ w.ownsRow 0 E s.sz v xs.length cs ∧ (Sh.arr xs.length s).K I.R w xs cs
 mp : ∀ n ks vs, H n = some (.mp ks vs) → MR I w n ks vs
 fam : ∀ n t k xs, H n = some (.fam t k xs) → FamR I w n t k xs
 dom : ∀ n, H n = none → I.ι n = none
 lt : ∀ n e b, I.ι n = some e → e.has b → b < w.heap.size ∧ ¬ I.R b
 inj : ∀ n m e e' b, I.ι n = some e → I.ι m = some e' → e.has b → e'.has b → n = m
 rlt : ∀ b, I.R b → b < w.heap.size
 one : ∀ n m t B B', I.ι n = some (.fam t B) → I.ι m = some (.fam t B') → n = m
structure Ext (I : In) (w : World) (I' : In) (w' : World) : Prop where
 obj : ∀ n b, I.ι n = some (.obj b) → I'.ι n = some (.obj b)
 ro : ∀ b, I.R b → I'.R b
 same : ∀ b, b < w.heap.size → (∀ n e, I.ι n = some e → ¬ e.has b) → w'.heap[b]? = w.heap[b]?
 own : ∀ n e b, I'.ι n = some e → e.has b → (∃ m e', I.ι m = some e' ∧ e'.has b) ∨ w.heap.size ≤ b
 newR : ∀ b, I'.R b → I.R b ∨ (∃ m e', I.ι m = some e' ∧ e'.has b) ∨ w.heap.size ≤ b
 size : w.heap.size ≤ w'.heap.size
 os : w'.os = w.os
 tape : w'.tape = w.tape
 output : w'.output = w.output
 fam : ∀ (t : TypeId) (i b : Nat), (I.R.fam t)[i]? = some b → (I'.R.fam t)[i]? = some b
 famE : ∀ t, (∀ n B, I.ι n ≠ some (.fam t B)) → I'.R.fam t = I.R.fam t ∧ ∀ n B, I'.ι n ≠ some (.fam t B)
theorem Ext.refl (I : In) (w : World) : Ext I w I w := ⟨fun _ _ h => h, fun _ h => h, fun _ _ _ => rfl, fun n e b h hb => .inl ⟨n, e, h, hb⟩, fun _ h => .inl h, ak _, rfl, rfl, rfl, fun _ _ _ h => h, fun _ h => ⟨rfl, h⟩⟩
theorem Ext.trans {I I1 I2 : In} {w w1 w2 : World} (h : Ext I w I1 w1) (k : Ext I1 w1 I2 w2) : Ext I w I2 w2 := by
 refine ⟨fun n b hb => k.obj n b (h.obj n b hb), fun b hb => k.ro b (h.ro b hb), fun b hb hn => ?_, fun n e b he hb => ?_, fun b hb => ?_, aT h.size k.size, k.os.trans h.os, k.tape.trans h.tape, k.output.trans h.output, fun t i b hb => k.fam t i b (h.fam t i b hb), fun t ht => ?_⟩
 ·rw [k.same b (bb hb h.size) (fun n e he heb => ?_), h.same b hb hn]
  rcases h.own n e b he heb with ⟨m, e', h1, h2⟩ | h1
  ·exact hn m e' h1 h2
  ·omega
 ·rcases k.own n e b he hb with ⟨m, e', h1, h2⟩ | h1
  ·exact h.own m e' b h1 h2
  ·exact .inr (aT h.size h1)
 ·rcases k.newR b hb with h1 | ⟨m, e', h1, h2⟩ | h1
  ·exact h.newR b h1
  ·exact .inr (h.own m e' b h1 h2)
  ·exact .inr (.inr (aT h.size h1))
 ·obtain ⟨h1, h2⟩ := h.famE t ht
  obtain ⟨h3, h4⟩ := k.famE t h2
  exact ⟨h3.trans h1, h4⟩
theorem Ext.keeps {I I' : In} {w w' : World} {H : Heap} (h : Ext I w I' w') (hH : HR I w H) : Keeps I.R I'.R w w' :=
 ⟨h.ro, fun b hb => h.same b (hH.rlt b hb) (fun n e he heb => (hH.lt n e b he heb).2 hb), h.fam⟩
theorem Ext.toObj {I I' : In} {w w' : World} {H : Heap} (h : Ext I w I' w') (hH : HR I w H) : ObjS I I' w w' := ⟨h.keeps hH, h.obj⟩
structure TR (I : In) (w : World) (T : List DV) (a : Act) : Prop where
  len : T.length ≤ a.tmps.size
  val : ∀ i, VR I w (T.getD i .undef) (a.tmps.getD i undef)
  df : a.defers = []
section
variable {P : Program} {I : In} {w : World} {T : List DV} {a : Act} {H : Heap}
theorem Hr {v : Value} (h : v.oneCell' = true) : v.cells = #[v] := by cases v <;> first | rfl | cases h
theorem yq (v : Value) : VR I w (At v) v := by
  have hC : ∀ cs : List Value, (cs.all (·.oneCell')) = true → CR I w (cs.map .sc) cs := by
    intro cs
    induction cs with
    | nil => intro _; exact .nil
    | cons c r ih =>
      intro h
      simp only [b8, aj] at h
      exact .one _ _ _ _ (.sc _ h.1) h.1 (ih h.2)
  have hL : ∀ cs : List Value, (cs.all (·.oneCell')) = true → LR I w (cs.map .sc) cs := by
    intro cs
    induction cs with
    | nil => intro _; exact .nil
    | cons c r ih =>
      intro h
      simp only [b8, aj] at h
      exact .cons _ _ _ _ (.sc _ h.1) (ih h.2)
  cases v <;> first
    | exact .sc _ rfl
    | (simp only [At]; split
       · rename_i h; first | exact .agg _ _ (hC _ h) | exact .tup _ _ (hL _ h)
       · exact .undef _)
theorem dP (hT : TR I w T a) (x : Operand) : VR I w (dh T x) (a.eval x) := by
  cases x with
  | tmp t => exact hT.val t
  | const v => exact yq v
  | global g => exact .undef _
  | func f => exact .fn _ _ _ _ _ .nil .nil
theorem TR.put (hT : TR I w T a) (d : Option Tmp) {v : DV} {u : Value} (h : VR I w v u) : TR I w (dE T d v) (a.put d u) := by
  cases d with
  | none => exact hT
  | some d =>
    refine ⟨by simp [dE, Act.put, hT.len], fun i => ?_, hT.df⟩
    simp only [dE, Act.put, aq, b7, b9, Array.getElem?_setIfInBounds]
    by_cases e : d = i
    · subst e
      by_cases hl : d < T.length
      · have hl2 : d < a.tmps.size := bb hl hT.len
        simp [hl, hl2, h]
      · simp only [hl, if_true, aC, Option.getD_none]
        exact .undef _
    · simp only [e, aC]
      have := hT.val i
      simpa [aq, b9] using this
structure Rows (I I' : In) : Prop where
  row : ∀ n sz v, I.ι n = some (.row sz v) → I'.ι n = some (.row sz v)
def Py (I : In) (w : World) (v : DV) : Next → Prop
  | .value u => VR I w v u
  | .skip => v = .undef
  | _ => False
def Done (P : Program) (o : Oper) (a : Act) (I : In) (w : World) (H : Heap) (v : DV) (act : fL) : Prop :=
  ∃ I' w' n, (execOp a.eval o).run P w = .ok n w' ∧ Ext I w I' w' ∧ Rows I I' ∧ HR I' w' (H.act act) ∧ Py I' w' v n
theorem Done.pure {o : Oper} {v : DV} {u : Value} (hH : HR I w H) (hr : (execOp a.eval o).run P w = .ok (.value u) w) (h : VR I w v u) : Done P o a I w H v none :=
  ⟨I, w, _, hr, Ext.refl I w, ⟨fun _ _ _ h => h⟩, hH, h⟩
theorem jL {s : Sem Value} {u : Value} {w' : World} (h : s.run P w = .ok u w') : ((do pure (Next.value (← s)) : Sem Next)).run P w = .ok (.value u) w' := by simp [Sem.run_bind, h]
theorem Hs {o : Oper} {x : Operand} (ho : o.op = .move x) : (execOp a.eval o).run P w = .ok (.value (a.eval x)) w := by unfold execOp; rw [ho]; rfl
theorem EG {o : Oper} {x : Operand} (ho : o.op = .assign x) : (execOp a.eval o).run P w = .ok (.value (a.eval x)) w := by unfold execOp; rw [ho]; rfl
theorem qW {t : TypeId} (h : fP P t = true) : ∃ d, P.underlying t = some d ∧ d.isRow = true := by
  unfold fP at h
  split at h
  · rename_i fs hu; exact ⟨_, hu, rfl⟩
  · rename_i m e hu; exact ⟨_, hu, rfl⟩
  · cases h
theorem E6 {t : TypeId} {d : TypeDesc} (h : P.underlying t = some d) : ∃ i, P.info? t = some i := by
  unfold Program.underlying at h
  cases hi : P.info? t with
  | none => rw [hi] at h; cases h
  | some i => exact ⟨i, rfl⟩
theorem tu {t : TypeId} {d : TypeDesc} (h : P.underlying t = some d) (w : World) : (isAgg t).run P w = .ok d.isRow w := by
  unfold isAgg
  rw [Sem.run_bind, run_underlying h w]
  cases d <;> rfl
theorem fV {t : TypeId} {d : TypeDesc} (h : P.underlying t = some d) : fP P t = d.isRow := by
  unfold fP
  rw [h]
  cases d <;> rfl
theorem pG {t : TypeId} {d : TypeDesc} (h : P.underlying t = some d) (w : World) : (sizeOf t).run P w = .ok (dI P t) w := by
  obtain ⟨i, hi⟩ := E6 h
  simp [sizeOf, typeInfo, hi, dI]
theorem ou {t : TypeId} {ad : Addr} {cs : List Value} {its : List DV} {v : DV} (hl : cs.length = dI P t) (hc : ∀ j u, cs[j]? = some u → w.cell? (ad.add j) = some u) (hv : nB P t its = some v) (hC : CR I w its cs) :
    ∃ u, (loadVar t ad).run P w = .ok u w ∧ VR I w v u := by
  rcases E5 hv hC with ⟨h1, h2⟩ | ⟨h1, h2, u, rfl, h3, h4⟩
  · obtain ⟨d, hd, hr⟩ := qW h1
    refine ⟨_, ?_, h2⟩
    have hl2 := run_loadCells_list (P := P) w ad cs hc
    simp [loadVar, Sem.run_bind, tu hd, hr, pG hd, ← hl, hl2]
  · obtain ⟨d, hd⟩ := Option.isSome_iff_exists.1 h2
    refine ⟨u, ?_, h3⟩
    have hr : d.isRow = false := by rw [← fV hd]; exact h1
    have h0 := hc 0 u rfl
    rw [show ad.add 0 = ad from rfl] at h0
    simp [loadVar, Sem.run_bind, tu hd, hr, h0]
theorem qX {b j : Nat} {c : Array Value} {t : TypeId} {fr : Nat × Nat} (h : w.heap[b]? = some (.cells c t fr)) : w.cell? ⟨b, j, none⟩ = c.toList[j]? := by
  simp [World.cell?, h]
theorem Ht {o : Oper} {t : TypeId} {x : Operand} {u : Value} {ad : Addr} (ho : o.op = .load t x) (hx : a.eval x = .pointer (some ad)) (h : (loadVar t ad).run P w = .ok u w) : (execOp a.eval o).run P w = .ok (.value u) w := by
  unfold execOp
  rw [ho]
  refine jL ?_
  rw [hx]
  simp [Instr.loadAt, Instr.sureAddr, Sem.run_bind, h]
theorem kK {n : Nat} {E : TypeId} {s : Sh} {xs : List s.T} (hH : HR I w H) (h : H n = some (.row E s xs)) {sz b len cap : Nat} (hi : I.ι n = some (.row sz (.slice (some ⟨b, 0, none⟩) len cap))) :
    sz = s.sz ∧ len = xs.length ∧ ∃ cs, (Sh.arr xs.length s).K I.R w xs cs ∧ w.ownsRow 0 E s.sz (.slice (some ⟨b, 0, none⟩) len cap) xs.length cs ∧ ∀ j u, cs[j]? = some u → w.cell? ⟨b, j, none⟩ = some u := by
  obtain ⟨v, cs, h1, h2, h3⟩ := hH.row n E s xs h
  rw [hi] at h1
  simp only [ab, Ent.row.injEq] at h1
  obtain ⟨rfl, rfl⟩ := h1
  have hlen : len = xs.length := by
    rcases h2.2 with ⟨e, _⟩ | ⟨g, c, cur, e, _⟩
    · cases e
    · simp only [Value.slice.injEq] at e
      exact e.2.1
  subst hlen
  refine ⟨rfl, rfl, cs, h3, h2, fun j u hu => ?_⟩
  have hj : j < xs.length * s.sz := by
    have := (List.getElem?_eq_some_iff.1 hu).1
    rw [h2.1] at this
    exact this
  rw [h2.cellAt j hj]
  exact hu
theorem E7 {t : TypeId} {d v : DV} {x' : Value} (hx : VR I w d x') (hH : HR I w H) (h : lp P t H d = some v) : ∃ ad u, x' = .pointer (some ad) ∧ (loadVar t ad).run P w = .ok u w ∧ VR I w v u := by
  cases hx with
  | ptr n off p b hb hp =>
    simp only [lp] at h
    split at h
    · rename_i cs hcs
      split at h
      · rename_i its hits
        split at h
        · rename_i its' hits'
          obtain ⟨b', c, t', e1, e2, e3⟩ := hH.obj n cs hcs
          rw [hb] at e1
          simp only [ab, Ent.obj.injEq] at e1
          subst e1
          obtain ⟨c1, k1, k2⟩ := p9 hits (show lW (.off off :: p) from hp) e3
          obtain ⟨d1, d2, rfl, hl, k3⟩ := me hits' k1
          obtain ⟨u, g1, g2⟩ := ou (ad := ⟨b, off + dO p, none⟩) hl (fun j u hu => by
            rw [Addr.add_mid, qX e2]
            have := k2 j u (by rw [aO (List.getElem?_eq_some_iff.1 hu).1]; exact hu)
            simp only [dO] at this
            exact this) h k3
          exact ⟨_, u, rfl, g1, g2⟩
        · cases h
      · cases h
    · cases h
  | rp n sz i p b len cap hb hi hp =>
    simp only [lp] at h
    split at h
    · rename_i E s xs hrow
      split at h
      · rename_i hz
        split at h
        · rename_i its hits
          split at h
          · rename_i its' hits'
            obtain ⟨e1, e2, cs, e3, e4, e5⟩ := kK hH hrow hb
            subst e2
            have hx2 := e3.2.2 i _ (getD_some xs i s.dflt hi)
            obtain ⟨c1, k1, k2⟩ := p9 hits hp (Sh.enc_ok (I := I) hx2)
            obtain ⟨d1, d2, rfl, hl, k3⟩ := me hits' k1
            obtain ⟨u, g1, g2⟩ := ou (ad := ⟨b, i * sz + dO p, none⟩) hl (fun j u hu => by
              rw [Addr.add_mid]
              have h3 := k2 j u (by rw [aO (List.getElem?_eq_some_iff.1 hu).1]; exact hu)
              rw [aP] at h3
              split at h3
              · rw [aV] at h3
                refine e5 _ u ?_
                rw [← h3, e1]
                congr 1
                omega
              · cases h3) h k3
            exact ⟨_, u, rfl, g1, g2⟩
          · cases h
        · cases h
      · cases h
    · cases h
  | pi its ad cs h0 hR him hC hc =>
    simp only [lp] at h
    split at h
    · rename_i its' hits'
      obtain ⟨d1, d2, rfl, hl, k3⟩ := me hits' hC
      obtain ⟨u, g1, g2⟩ := ou (ad := ad) hl (fun j u hu => hc j u (by rw [aO (List.getElem?_eq_some_iff.1 hu).1]; exact hu)) h k3
      exact ⟨_, u, rfl, g1, g2⟩
    · cases h
  | _ => simp [lp] at h
theorem Mn {o : Oper} {t : TypeId} {x : Operand} {v : DV} (ho : o.op = .load t x) (hT : TR I w T a) (hH : HR I w H) (h : lp P t H (dh T x) = some v) : Done P o a I w H v none := by
  obtain ⟨ad, u, h1, h2, h3⟩ := E7 (dP hT x) hH h
  exact Done.pure hH (Ht ho h1 h2) h3
end
section
variable {P : Program} {I : In} {w : World} {T : List DV} {a : Act} {H : Heap} {α : Type}
theorem VR.sc_eq {v u : Value} (h : VR I w (.sc v) u) : u = v := by cases h; rfl
def jd (P : Program) (I : In) (w : World) (s : Sem Value) (v : DV) : Prop := ∃ u, s.run P w = .ok u w ∧ VR I w v u
theorem JX {c x y : DV} {c' x' y' : Value} {k : DV → Option α} {r : α} (hc : VR I w c c') (hx : VR I w x x') (hy : VR I w y y') (h : pe c x y k = some r) :
  ∃ v, k v = some r ∧ jd P I w (do pure (if ← asBool c' then x' else y')) v := by
 cases hc with
 | sc _ hv =>
  cases c' with
  | bool t =>
   have gen : ∀ h' : (if t = true then k x else k y) = some r, ∃ v, k v = some r ∧ jd P I w (do pure (if ← asBool (.bool t) then x' else y')) v := by
    intro h'
    cases t
    ·exact ⟨y, by simpa using h', y', by simp [asBool], hy⟩
    ·exact ⟨x, by simpa using h', x', by simp [asBool], hx⟩
   simp only [pe] at h
   split at h
   ·cases hx with | sc _ _ => cases hy with | sc _ _ =>
     exact ⟨_, h, _, rfl, by cases t <;> exact .sc _ rfl⟩
   ·split at h
    ·rename_i hk
     subst hk
     cases hx with | sc _ _ => cases hy with | sc _ _ =>
      exact ⟨_, h, _, rfl, by cases t <;> exact .sc _ rfl⟩
    ·cases h
   ·exact gen h
  | _ => simp [pe] at h
 | _ => simp [pe] at h
theorem wn (t : TypeId) : dI P t = P.cellsOf t := by
 unfold dI Program.cellsOf
 cases P.info? t <;> rfl
def nI (P : Program) (t : TypeId) (cs : List Value) : Value := if fP P t then .agg cs.toArray else cs.headD undef
theorem kL {t : TypeId} {d : TypeDesc} {cs : List Value} {o : Nat} (hu : P.underlying t = some d) (hl : o + dI P t ≤ cs.length) (h1 : fP P t = false → dI P t = 1) :
  (part t cs.toArray o).run P w = .ok (nI P t ((cs.drop o).take (dI P t))) w := by
 unfold part nI
 rw [Sem.run_bind, tu hu, Result.andThen_ok, fV hu]
 cases hr : d.isRow with
 | true =>
  simp only [if_true, Sem.run_bind, pG hu, Result.andThen_ok, Sem.run_pure]
  congr 2
  apply Array.ext'
  simp [List.extract_eq_take_drop]
 | false =>
  have h2 := h1 (by rw [fV hu, hr])
  have h3 : o < cs.length := by omega
  have h4 : cs[o]? = some cs[o] := ax h3
  simp only [aL, aC, List.getElem?_toArray, h4, Sem.run_pure]
  congr 1
  rw [h2, List.headD_eq_head?_getD, List.head?_take, if_neg (by omega), List.head?_drop, h4]
  rfl
theorem pj : ∀ {d : Nat} {t : TypeId} {s : Sh}, pE P d t s = true → dI P t = s.sz ∧ 0 < s.sz ∧ ∃ D, P.underlying t = some D ∧ (D.isRow = false → s.sz = 1)
 | 0, _, _, h => by cases h
 | d + 1, t, s, h => by
  simp only [pE, aj, ai, av] at h
  obtain ⟨⟨h1, h0⟩, h2⟩ := h
  refine ⟨h1, h0, ?_⟩
  split at h2 <;> first
   | (rename_i hu; exact ⟨_, hu, fun _ => rfl⟩)
   | (rename_i hu; exact ⟨_, hu, fun h => by cases h⟩)
   | cases h2
theorem Hu {R : RO} {d m : Nat} (ih : ∀ {t : TypeId} {s : Sh} {x y : s.T} {cs ds : List Value}, pE P d t s = true → s.K R w x cs → s.K R w y ds → (Op.equalIn m t (nI P t cs) (nI P t ds)).run P w = .ok (s.eqT x y) w) :
  ∀ {fs : List Field} {o : Nat} {s : Sh} {x y : s.T} {cs ds : List Value}, wY (pE P d) P o fs s = true → s.K R w x (cs.drop o) → s.K R w y (ds.drop o) →
  (Op.eqFields m cs.toArray ds.toArray fs).run P w = .ok (s.eqT x y) w
 | [], _, _, _, _, _, _, h, _, _ => by simp [wY] at h
 | [g], o, s, x, y, cs, ds, h, hx, hy => by
  have h' : g.name ≠ "_" ∧ g.offset = o ∧ pE P d g.type s = true := by
   cases s <;> simpa [wY, and_assoc] using h
  obtain ⟨h1, h2, h3⟩ := h'
  obtain ⟨z1, z0, D, z2, z3⟩ := pj h3
  have l1 := Sh.K_len hx
  have l2 := Sh.K_len hy
  have hm : fP P g.type = false → dI P g.type = 1 := fun hh => by rw [z1]; exact z3 (by rw [← fV z2]; exact hh)
  simp only [cg] at l1 l2
  simp only [Op.eqFields, ne_eq, h1, not_false_eq_true, if_true, Sem.run_bind]
  rw [h2, kL (cs := cs) z2 (by omega) hm, Result.andThen_ok, kL (cs := ds) z2 (by omega) hm, Result.andThen_ok]
  have e1 : (cs.drop o).take (dI P g.type) = cs.drop o := aQ (by rw [cg]; omega)
  have e2 : (ds.drop o).take (dI P g.type) = ds.drop o := aQ (by rw [cg]; omega)
  rw [e1, e2, ih h3 hx hy, Result.andThen_ok]
  cases s.eqT x y <;> simp [Op.eqFields]
 | g :: g2 :: r, o, s, x, y, cs, ds, h, hx, hy => by
  cases s with
  | pair p q =>
   simp only [wY, aj, aw, ne_eq, ai] at h
   obtain ⟨⟨⟨h1, h2⟩, h3⟩, h4⟩ := h
   obtain ⟨z1, z0, D, z2, z3⟩ := pj h3
   obtain ⟨c1, c2, e1, k1, k2⟩ := hx
   obtain ⟨d1, d2, e2, m1, m2⟩ := hy
   have lc := Sh.K_len k1
   have ld := Sh.K_len m1
   have hm : fP P g.type = false → dI P g.type = 1 := fun hh => by rw [z1]; exact z3 (by rw [← fV z2]; exact hh)
   have n1 : cs.length - o = c1.length + c2.length := by rw [← cg, e1, aF]
   have n2 : ds.length - o = d1.length + d2.length := by rw [← cg, e2, aF]
   have t1 : (cs.drop o).take (dI P g.type) = c1 := by rw [e1, z1, ← lc]; simp
   have t2 : (ds.drop o).take (dI P g.type) = d1 := by rw [e2, z1, ← ld]; simp
   have u1 : cs.drop (o + p.sz) = c2 := by rw [← bv, e1, ← lc]; simp
   have u2 : ds.drop (o + p.sz) = d2 := by rw [← bv, e2, ← ld]; simp
   have ih2 := Hu ih (fs := g2 :: r) (o := o + p.sz) (cs := cs) (ds := ds) h4 (by rw [u1]; exact k2) (by rw [u2]; exact m2)
   rw [Op.eqFields]
   simp only [ne_eq, h1, not_false_eq_true, if_true, Sem.run_bind]
   rw [h2, kL (cs := cs) z2 (by omega) hm, Result.andThen_ok, kL (cs := ds) z2 (by omega) hm, Result.andThen_ok, t1, t2, ih h3 k1 m1, Result.andThen_ok]
   simp only [Sh.eqT]
   cases p.eqT x.1 y.1
   ·simp
   ·simpa using ih2
  | _ => simp [wY] at h
theorem Hv {R : RO} {m : Nat} {e : TypeId} {s : Sh} {n : Nat} {xs ys : List s.T} {cs ds : List Value} (hx : (Sh.arr n s).K R w xs cs) (hy : (Sh.arr n s).K R w ys ds) (z1 : dI P e = s.sz) {D : TypeDesc} (z2 : P.underlying e = some D) (hm : fP P e = false → dI P e = 1)
  (ih : ∀ {x y : s.T} {cs ds : List Value}, s.K R w x cs → s.K R w y ds → (Op.equalIn m e (nI P e cs) (nI P e ds)).run P w = .ok (s.eqT x y) w) :
  ∀ is : List Nat, (∀ i ∈ is, i < n) → (Op.eqItems m e (P.cellsOf e) cs.toArray ds.toArray is).run P w = .ok (is.all fun i => s.eqT (xs.getD i s.dflt) (ys.getD i s.dflt)) w
 | [], _ => by simp [Op.eqItems]
 | i :: is, hi => by
  have h1 := hi i (aD ..)
  have ih2 := Hv hx hy z1 z2 hm ih is (fun j hj => hi j (az _ hj))
  have hle : i * s.sz + s.sz ≤ n * s.sz := by rw [← aK]; exact aS _ h1
  have g1 := hx.2.2 i _ (getD_some xs i s.dflt (by rw [hx.1]; exact h1))
  have g2 := hy.2.2 i _ (getD_some ys i s.dflt (by rw [hy.1]; exact h1))
  have l1 := hx.2.1
  have l2 := hy.2.1
  rw [Op.eqItems]
  simp only [Sem.run_bind]
  rw [← wn, z1, kL (cs := cs) z2 (by omega) hm, Result.andThen_ok, kL (cs := ds) z2 (by omega) hm, Result.andThen_ok, z1, ih g1 g2, Result.andThen_ok]
  simp only [b8]
  cases s.eqT (xs.getD i s.dflt) (ys.getD i s.dflt)
  ·simp
  ·rw [← wn, z1] at ih2
   simpa using ih2
theorem Cu {R : RO} : ∀ {d m : Nat} {t : TypeId} {s : Sh} {x y : s.T} {cs ds : List Value}, d ≤ m → pE P d t s = true → s.K R w x cs → s.K R w y ds → (Op.equalIn m t (nI P t cs) (nI P t ds)).run P w = .ok (s.eqT x y) w
 | 0, _, _, _, _, _, _, _, _, h, _, _ => by cases h
 | d + 1, 0, _, _, _, _, _, _, hm, _, _, _ => by omega
 | d + 1, m + 1, t, s, x, y, cs, ds, hm, h, hx, hy => by
  simp only [pE, aj, ai, av] at h
  obtain ⟨⟨h1, h0⟩, h2⟩ := h
  split at h2
  ·rename_i k k' hu
   simp only [ai] at h2
   subst h2
   cases hx
   cases hy
   have : fP P t = false := by rw [fV hu]
   simp only [nI, this, aL, aC, List.headD_cons]
   exact run_equalIn_int w m t _ _ _ _ hu
  ·rename_i hu
   cases hx
   cases hy
   have : fP P t = false := by rw [fV hu]
   simp only [nI, this, aL, aC, List.headD_cons]
   exact run_equalIn_bool' w m t _ _ hu
  ·rename_i hu
   cases hx
   cases hy
   have : fP P t = false := by rw [fV hu]
   simp only [nI, this, aL, aC, List.headD_cons]
   exact run_equalIn_string w m t _ _ hu
  ·rename_i fs hu
   simp only [aj, bJ] at h2
   have : fP P t = true := by rw [fV hu]
   have hf : P.fieldsOf t = fs := by simp [Program.fieldsOf, hu]
   simp only [nI, this, if_true]
   rw [run_equalIn_struct w m t _ _ (by rw [hf]; exact hu) h2.1, hf]
   exact Hu (fun hc k1 k2 => Cu (by omega) hc k1 k2) h2.2 (by simpa using hx) (by simpa using hy)
  ·rename_i n e n' s' hu
   simp only [aj, ai] at h2
   obtain ⟨rfl, h3⟩ := h2
   have : fP P t = true := by rw [fV hu]
   obtain ⟨z1, z0, D, z2, z3⟩ := pj h3
   obtain ⟨i, hi⟩ := E6 z2
   simp only [nI, this, if_true]
   rw [run_equalIn_array w m _ _ hu hi]
   exact Hv hx hy z1 z2 (fun hh => by rw [z1]; exact z3 (by rw [← fV z2]; exact hh)) (fun k1 k2 => Cu (by omega) h3 k1 k2) _ (fun i hi => bh.1 hi)
  ·cases h2
end
section
variable {P : Program} {I : In} {w : World} {T : List DV} {a : Act} {H : Heap} {α : Type}
theorem yr {s : Sem Value} {v : Value} : fb P s = some v → s.run P w = .ok v w := by
  induction s with
  | pure b => intro h; simp only [fb, ab] at h; subst h; rfl
  | program k ih => intro h; simp only [fb] at h; exact ih P h
  | _ => intro h; cases h
theorem Cv {β : Type} {c : Prop} [Decidable c] {x y r : β} (hx : x = r) (hy : y = r) : (if c then x else y) = r := by split <;> assumption
theorem fj {op : BinOp} {t : TypeId} {x y : Operand} {u v : Value} (h : ∀ cs ds, u = .agg cs → v = .agg ds → False) (h2 : u ≠ .nilIface) : (eqGuard op t x y u v).run P w = .ok () w := by
  unfold eqGuard
  rw [Sem.run_ite]
  refine Cv rfl ?_
  split
  · exact (h2 rfl).elim
  · exact (h _ _ rfl rfl).elim
  · rfl
theorem wq {op : BinOp} {t : TypeId} {x y : Operand} {cs ds : Array Value} (h : P.eqGuardType P.depth t = false) : (eqGuard op t x y (.agg cs) (.agg ds)).run P w = .ok () w := by
  unfold eqGuard
  rw [Sem.run_ite]
  exact Cv rfl (by simp [Sem.run_bind, h])
theorem Mo {op : BinOp} {t : TypeId} {ka kb : IntKind} {x y : Int} {v : Value} (h : fb P (binOp op t (.int ka x) (.int kb y)) = some v) : v.oneCell' = true := by
  have hi : ∀ {c : Prop} [Decidable c] {s s' : Sem Value}, fb P (if c then s else s') = some v → (fb P s = some v ∨ fb P s' = some v) := by
    intro c _ s s' h
    split at h
    · exact .inl h
    · exact .inr h
  have hn : ∀ {x : String}, fb P (stuck x : Sem Value) = some v → v.oneCell' = true := fun h => by cases h
  cases op <;> simp only [binOp] at h <;> first
    | (rcases hi h with h | h
       · cases h
       · first
         | (simp only [Op.intArith, Op.intCmp, pure, fb, ab] at h; subst h; rfl)
         | (simp only [Op.intBits, pure, fb, ab] at h; subst h; rfl)
         | (simp only [Op.intDiv] at h
            rcases hi h with h | h
            · cases h
            · simp only [pure, fb, ab] at h; subst h; rfl))
    | (simp only [Op.shift] at h
       rcases hi h with h | h
       · cases h
       · simp only [pure, fb, ab] at h; subst h; rfl)
theorem Mp {op : BinOp} {x y : ByteArray} {v : Value} (h : fb P (Op.stringOp op x y) = some v) : v.oneCell' = true := by
  cases op <;> simp only [Op.stringOp] at h <;> first
    | (simp only [pure, fb, ab] at h; subst h; rfl)
    | (split at h
       · cases h
       · simp only [pure, fb, ab] at h; subst h; rfl)
    | cases h
theorem yt {t e : TypeId} (hu : P.underlying t = some (.pointer e)) (q : Addr) : (Op.equal t (.pointer (some q)) (.pointer none)).run P w = .ok false w := by
  unfold Op.equal Op.maxDepth
  rw [Op.equalIn, Sem.run_bind, run_underlying hu]
  rfl
theorem Hw {t e : TypeId} (hu : P.underlying t = some (.pointer e)) : (Op.equal t (.pointer none) (.pointer none)).run P w = .ok true w := by
  unfold Op.equal Op.maxDepth
  rw [Op.equalIn, Sem.run_bind, run_underlying hu]
  rfl
theorem n8 {op : BinOp} {t : TypeId} {x y : Operand} {q : Option Addr} {c : Bool} {k : DV → Option α} {r : α}
    (h : (match op with
    | .eql => match P.underlying t with | some (.pointer _) => k (.sc (.bool c)) | _ => none
    | .neq => match P.underlying t with | some (.pointer _) => k (.sc (.bool !c)) | _ => none
    | _ => none) = some r) (p2 : Option Addr) (hg : (eqGuard op t x y (.pointer q) (.pointer p2)).run P w = .ok () w) (he : ∀ e, P.underlying t = some (.pointer e) → (Op.equal t (.pointer q) (.pointer p2)).run P w = .ok c w) :
    ∃ z, k z = some r ∧ jd P I w (do eqGuard op t x y (.pointer q) (.pointer p2); binOp op t (.pointer q) (.pointer p2)) z := by
  split at h
  · split at h
    · rename_i e' hu
      refine ⟨_, h, _, ?_, .sc _ rfl⟩
      rw [Sem.run_bind, hg]
      show ((do pure (.bool (← Op.equal t (.pointer q) (.pointer p2))) : Sem Value)).run P w = _
      rw [Sem.run_bind, he _ hu]
      rfl
    · cases h
  · split at h
    · rename_i e' hu
      refine ⟨_, h, _, ?_, .sc _ rfl⟩
      rw [Sem.run_bind, hg]
      show ((do pure (.bool (!(← Op.equal t (.pointer q) (.pointer p2)))) : Sem Value)).run P w = _
      rw [Sem.run_bind, he _ hu]
      rfl
    · cases h
  · cases h
theorem Mq {op : BinOp} {t : TypeId} {x y : Operand} {d e : DV} {u v : Value} {k : DV → Option α} {r : α} (hd : VR I w d u) (he : VR I w e v) (h : zM P op t d e k = some r) :
    ∃ z, k z = some r ∧ jd P I w (do eqGuard op t x y u v; binOp op t u v) z := by
  have guard : ∀ {s : Sem Value} {z : DV}, (eqGuard op t x y u v).run P w = .ok () w → jd P I w s z → binOp op t u v = s → jd P I w (do eqGuard op t x y u v; binOp op t u v) z := by
    rintro s z h1 ⟨q, h2, h3⟩ rfl
    exact ⟨q, by rw [Sem.run_bind, h1]; exact h2, h3⟩
  unfold zM at h
  split at h
  · rename_i ka m kb n
    obtain rfl := hd.sc_eq
    obtain rfl := he.sc_eq
    have hg : (eqGuard op t x y (.int ka m) (.int kb n)).run P w = .ok () w := fj (fun _ _ h _ => by cases h) (by simp)
    split at h
    · split at h
      · rename_i hk
        subst hk
        split at h
        · cases h
        · rename_i hn
          refine ⟨_, h, guard hg ⟨_, ?_, .sc _ rfl⟩ rfl⟩
          have : n ≠ 0 := by simpa using hn
          simp [binOp, Op.intDiv, this]
      · cases h
    · split at h
      · rename_i hk
        subst hk
        split at h
        · cases h
        · rename_i hn
          refine ⟨_, h, guard hg ⟨_, ?_, .sc _ rfl⟩ rfl⟩
          have : n ≠ 0 := by simpa using hn
          simp [binOp, Op.intDiv, this]
      · cases h
    · split at h
      · cases h
      · rename_i hn
        refine ⟨_, h, guard hg ⟨_, ?_, .sc _ rfl⟩ rfl⟩
        have : ¬ n < 0 := by simpa using hn
        simp [binOp, Op.shift, this]
    · split at h
      · cases h
      · rename_i hn
        refine ⟨_, h, guard hg ⟨_, ?_, .sc _ rfl⟩ rfl⟩
        have : ¬ n < 0 := by simpa using hn
        simp [binOp, Op.shift, this]
    · split at h
      · rename_i z hz
        exact ⟨_, h, guard hg ⟨_, yr hz, .sc _ (Mo hz)⟩ rfl⟩
      · cases h
  · rename_i m n
    obtain rfl := hd.sc_eq
    obtain rfl := he.sc_eq
    have hg : (eqGuard op t x y (.string m) (.string n)).run P w = .ok () w := fj (fun _ _ h _ => by cases h) (by simp)
    split at h
    · split at h
      · rename_i hn
        refine ⟨_, h, guard hg ⟨_, ?_, .sc _ rfl⟩ rfl⟩
        have hn : m.size + n.size ≤ 140737488351232 := by simpa using hn
        have : ¬ ((m.size + n.size : Nat) : Int) > IntKind.i64.max := by
          have : IntKind.max .i64 = 9223372036854775807 := by decide
          omega
        show (Op.stringOp .add m n).run P w = _
        unfold Op.stringOp
        simp only [if_neg this]
        rfl
      · cases h
    · split at h
      · rename_i z hz
        have hb : binOp op t (.string m) (.string n) = Op.stringOp op m n := by cases op <;> rfl
        exact ⟨_, h, guard hg ⟨_, yr hz, .sc _ (Mp hz)⟩ hb⟩
      · cases h
  · rename_i m n
    obtain rfl := hd.sc_eq
    obtain rfl := he.sc_eq
    have hg : (eqGuard op t x y (.bool m) (.bool n)).run P w = .ok () w := fj (fun _ _ h _ => by cases h) (by simp)
    split at h
    · split at h
      · rename_i hu
        refine ⟨_, h, guard hg ⟨_, ?_, .sc _ rfl⟩ rfl⟩
        simp [binOp, Sem.run_bind, Op.equal, Op.maxDepth, run_equalIn_bool' w _ t m n hu]
      · cases h
    · split at h
      · rename_i hu
        refine ⟨_, h, guard hg ⟨_, ?_, .sc _ rfl⟩ rfl⟩
        simp [binOp, Sem.run_bind, Op.equal, Op.maxDepth, run_equalIn_bool' w _ t m n hu, bne]
      · cases h
    · cases h
  · rename_i xs ys
    have agg : ∀ {c : Bool}, L5 P t xs ys = some c → ∃ cs ds, u = .agg cs ∧ v = .agg ds ∧ P.eqGuardType P.depth t = false ∧ (Op.equal t u v).run P w = .ok c w := by
      intro c hc
      unfold L5 at hc
      split at hc
      · rename_i s hs
        split at hc
        · rename_i hcm
          simp only [aj, bJ] at hcm
          split at hc
          · rename_i x1 y1 hx1 hy1
            simp only [ab] at hc
            subst hc
            cases hd with | agg _ cs hcs => cases he with | agg _ ds hds =>
              obtain ⟨c1, c2, e1, k1, k2⟩ := Sh.dec_ok hx1 hcs
              obtain ⟨d1, d2, e2, m1, m2⟩ := Sh.dec_ok hy1 hds
              cases k2
              cases m2
              rw [aG] at e1 e2
              obtain ⟨z1, z0, D, z2, z3⟩ := pj hcm.1.2
              refine ⟨cs, ds, rfl, rfl, hcm.2, ?_⟩
              have hmu := hcm.1.1
              have := Cu (P := P) (w := w) (m := Op.maxDepth) (by decide) hcm.1.2 (e1 ▸ k1) (e2 ▸ m1)
              simpa [nI, hmu, Op.equal] using this
          · cases hc
        · cases hc
      · cases hc
    split at h
    · split at h
      · rename_i c hc
        obtain ⟨cs, ds, rfl, rfl, g1, g2⟩ := agg hc
        refine ⟨_, h, guard (wq g1) ⟨_, ?_, .sc _ rfl⟩ rfl⟩
        simp [binOp, Sem.run_bind, g2]
      · cases h
    · split at h
      · rename_i c hc
        obtain ⟨cs, ds, rfl, rfl, g1, g2⟩ := agg hc
        refine ⟨_, h, guard (wq g1) ⟨_, ?_, .sc _ rfl⟩ rfl⟩
        simp [binOp, Sem.run_bind, g2]
      · cases h
    · cases h
  · cases hd with | ptr n _ _ b hb hp =>
      obtain rfl := he.sc_eq
      exact n8 h _ (fj (fun _ _ h _ => by cases h) (by simp)) (fun e hu => yt hu _)
  · cases hd with | rp n sz i _ b len cap hb hi hp =>
      obtain rfl := he.sc_eq
      exact n8 h _ (fj (fun _ _ h _ => by cases h) (by simp)) (fun e hu => yt hu _)
  · cases hd with | pi _ ad cs h0 hR him hC hc =>
      obtain rfl := he.sc_eq
      exact n8 (c := false) h _ (fj (fun _ _ h _ => by cases h) (by simp)) (fun e hu => yt hu _)
  · rename_i t' n
    cases hd with | fp _ _ _ hk =>
    obtain rfl := he.sc_eq
    rcases hk with ⟨rfl, e⟩ | ⟨m, b, rfl, _, e⟩
    · simp only [bm, aZ] at e
      subst e
      exact n8 (c := true) h _ (fj (fun _ _ h _ => by cases h) (by simp)) (fun e hu => Hw hu)
    · simp only [bm, aZ] at e
      subst e
      exact n8 (c := false) h _ (fj (fun _ _ h _ => by cases h) (by simp)) (fun e hu => yt hu _)
  · obtain rfl := hd.sc_eq
    obtain rfl := he.sc_eq
    exact n8 h _ (fj (fun _ _ h _ => by cases h) (by simp)) (fun e hu => Hw hu)
  · cases h
end
section
variable {P : Program} {I : In} {w : World} {T : List DV} {a : Act} {H : Heap} {α : Type}
theorem jM {i : Int} {n : Nat} (h : fQ i n = true) : 0 ≤ i ∧ i < (n : Int) ∧ i.toNat < n := by
 simp only [fQ, aj, av] at h
 omega
theorem Nh (s : ByteArray) (i : Int) (h1 : i.toNat < s.size) : bt s i = ((s[i.toNat]'h1).toNat : Int) := by
 unfold bt
 have : s.data.toList.getD i.toNat 0 = s[i.toNat]'h1 := by
  rw [aq, ax (by simpa using h1)]
  rfl
 rw [this]
theorem BJ {t : TypeId} {s : ByteArray} {k : IntKind} {i : Int} (hu : P.underlying t = some .string) (h0 : 0 ≤ i) (h1 : i.toNat < s.size) : (Instr.index t (.string s) (.int k i)).run P w = .ok (.int .u8 (bt s i)) w := by
 rw [Nh s i h1]
 simp [Instr.index, Sem.run_bind, asIntOf, run_underlying hu, if_pos h0, ByteArray.getElem?_lt' s _ h1]
theorem w0 {t : TypeId} {its : List DV} {cs : List Value} {o : Nat} {v : DV} (hC : CR I w its ((cs.drop o).take (dI P t))) (hle : o + dI P t ≤ cs.length) (hv : nB P t its = some v) : jd P I w (part t cs.toArray o) v := by
 rcases E5 hv hC with ⟨h1, h2⟩ | ⟨h1, h2, u, he, h3, h4⟩
 ·obtain ⟨d, hd, hr⟩ := qW h1
  refine ⟨_, kL hd hle (fun h => by rw [h1] at h; cases h), ?_⟩
  simpa [nI, h1] using h2
 ·obtain ⟨d, hd⟩ := Option.isSome_iff_exists.1 h2
  have hs : dI P t = 1 := by
   have := congrArg List.length he
   simp at this
   omega
  refine ⟨_, kL hd hle (fun _ => hs), ?_⟩
  simpa [nI, h1, he] using h3
theorem CR.arrH {s : Sh} {n : Nat} {ys : List s.T} {r : List DV} {cs : List Value} (h : CR I w (.arr s n ys :: r) cs) : ∃ c c2, cs = c ++ c2 ∧ (Sh.arr n s).K I.R w ys c ∧ CR I w r c2 := by
 cases h with
 | one _ _ u c2 hv hu hr => cases hv
 | arr _ _ _ _ c c2 hk h1 hr => exact ⟨c, c2, rfl, hk, hr⟩
theorem CR.arr1 {s : Sh} {n : Nat} {ys : List s.T} {cs : List Value} (h : CR I w [.arr s n ys] cs) : (Sh.arr n s).K I.R w ys cs := by
 obtain ⟨c, c2, rfl, h1, h2⟩ := h.arrH
 cases h2
 simpa using h1
theorem sI {t e : TypeId} {m : Nat} {c : Array Value} {kd : IntKind} {i : Int} (hu : P.underlying t = some (.array m e)) (h0 : 0 ≤ i) (h1 : i < (m : Int)) {D : TypeDesc} (he : P.underlying e = some D) :
  (Instr.index t (.agg c) (.int kd i)).run P w = (part e c (i.toNat * dI P e)).run P w := by
 simp [Instr.index, Sem.run_bind, asIntOf, run_underlying hu, h0, h1, pG he]
theorem qY {t : TypeId} {its : List DV} {v : DV} (h : nB P t its = some v) : ∃ D, P.underlying t = some D := by
 unfold nB at h
 split at h
 ·rename_i hm
  obtain ⟨d, hd, _⟩ := qW hm
  exact ⟨d, hd⟩
 ·split at h
  ·rename_i hu
   exact Option.isSome_iff_exists.1 hu
  ·cases h
theorem w7 {R : RO} {s : Sh} {n : Nat} {ys : List s.T} {c : List Value} {i : Nat} (hk : (Sh.arr n s).K R w ys c) (hi : i < n) : s.K R w (ys.getD i s.dflt) ((c.drop (i * s.sz)).take s.sz) ∧ i * s.sz + s.sz ≤ c.length := by
 refine ⟨hk.2.2 i _ (getD_some ys i s.dflt (by rw [hk.1]; exact hi)), ?_⟩
 rw [hk.2.1, ← aK]
 exact aS _ hi
theorem Hx {t : TypeId} {d : DV} {u : Value} {kd : IntKind} {i : Int} {k : DV → Option α} {r : α} (hd : VR I w d u) (h : p6 P t d i k = some r) : ∃ v, k v = some r ∧ jd P I w (Instr.index t u (.int kd i)) v := by
 unfold p6 at h
 split at h
 ·obtain rfl := hd.sc_eq
  split at h
  ·rename_i hu
   split at h
   ·rename_i hb
    obtain ⟨h0, h1, h2⟩ := jM hb
    exact ⟨_, h, _, BJ hu h0 h2, .sc _ rfl⟩
   ·cases h
  ·cases h
 ·rename_i cs
  cases hd with | agg _ c hc =>
  split at h
  ·rename_i m e hu
   split at h
   ·rename_i s m' ys
    split at h
    ·rename_i hm
     subst hm
     split at h
     ·rename_i hz
      split at h
      ·rename_i hb
       obtain ⟨h0, h1, h2⟩ := jM hb
       split at h
       ·rename_i v hv
        obtain ⟨D, hD⟩ := qY hv
        obtain ⟨g1, g2⟩ := w7 hc.arr1 h2
        obtain ⟨q, m1, m2⟩ := w0 (P := P) (cs := c.toList) (o := i.toNat * dI P e) (by rw [hz]; exact Sh.enc_ok (I := I) g1) (by rw [hz]; exact g2) hv
        exact ⟨v, h, q, by rw [sI hu h0 h1 hD]; simpa using m1, m2⟩
       ·cases h
      ·cases h
     ·cases h
    ·cases h
   ·split at h
    ·rename_i hb
     obtain ⟨h0, h1, h2⟩ := jM hb
     split at h
     ·rename_i r1 hr1
      split at h
      ·rename_i its hits
       split at h
       ·rename_i v hv
        obtain ⟨D, hD⟩ := qY hv
        obtain ⟨c1, c2, e1, l1, _, k1⟩ := md hr1 hc
        obtain ⟨d1, d2, rfl, l2, k2⟩ := me hits k1
        have hle := congrArg List.length e1
        simp only [aF] at hle
        have e2 : (c.toList.drop (i.toNat * dI P e)).take (dI P e) = d1 := by rw [e1, ← l1, ← l2]; simp
        obtain ⟨q, m1, m2⟩ := w0 (P := P) (cs := c.toList) (o := i.toNat * dI P e) (by rw [e2]; exact k2) (by omega) hv
        exact ⟨v, h, q, by rw [sI hu h0 h1 hD]; simpa using m1, m2⟩
       ·cases h
      ·cases h
     ·cases h
    ·cases h
  ·cases h
 ·cases h
theorem yu {t : TypeId} {f o : Nat} {u : TypeId} (h : vA P t f = some (o, u)) : ∃ fs g, P.underlying t = some (.struct fs) ∧ fs[f]? = some g ∧ g.offset = o ∧ g.type = u ∧ dI P u ≠ 0 := by
 unfold vA at h
 split at h
 ·rename_i fs hu
  split at h
  ·rename_i g hg
   split at h
   ·cases h
   ·rename_i hz
    simp only [ab, ah] at h
    exact ⟨fs, g, hu, hg, h.1, h.2, by rw [← h.2]; exact hz⟩
  ·cases h
 ·cases h
theorem Hy {t : TypeId} {d v : DV} {u : Value} {f : Nat} (hd : VR I w d u) (h : Co P t d f = some v) : jd P I w (Instr.field t u f) v := by
 unfold Co at h
 split at h
 ·rename_i o ft hf
  obtain ⟨fs, g, hu, hg, rfl, rfl, hz⟩ := yu hf
  split at h
  ·rename_i cs
   cases hd with | agg _ c hc =>
   split at h
   ·rename_i r hr
    split at h
    ·rename_i its hits
     obtain ⟨D, hD⟩ := qY h
     obtain ⟨c1, c2, e1, l1, _, k1⟩ := md hr hc
     obtain ⟨d1, d2, rfl, l2, k2⟩ := me hits k1
     have hle := congrArg List.length e1
     simp only [aF] at hle
     have e2 : (c.toList.drop g.offset).take (dI P g.type) = d1 := by rw [e1, ← l1, ← l2]; simp
     obtain ⟨q, m1, m2⟩ := w0 (P := P) (cs := c.toList) (o := g.offset) (by rw [e2]; exact k2) (by omega) h
     refine ⟨q, ?_, m2⟩
     simp only [Instr.field, Sem.run_bind, run_underlying hu, Result.andThen_ok, hg, asAgg, Sem.run_pure]
     simpa using m1
    ·cases h
   ·cases h
  ·cases h
 ·cases h
theorem pH {t : TypeId} {f : Nat} {fs : Array Field} {g : Field} {ad : Addr} (hu : P.underlying t = some (.struct fs)) (hg : fs[f]? = some g) (hz : dI P g.type ≠ 0) : (Instr.fieldAt t (.pointer (some ad)) f).run P w = .ok (.pointer (some (ad.add g.offset))) w := by
 have hi : ∃ i, P.info? g.type = some i ∧ i.size = dI P g.type := by
  unfold dI at hz ⊢
  cases hq : P.info? g.type with
  | none => rw [hq] at hz; exact absurd rfl hz
  | some i => exact ⟨i, rfl, rfl⟩
 obtain ⟨i, hi1, hi2⟩ := hi
 have hz2 : i.size ≠ 0 := by rw [hi2]; exact hz
 simp [Instr.fieldAt, Sem.run_bind, run_underlying hu, hg, Instr.sureAddr, fieldPlace, sizeOf, typeInfo, hi1, hz2]
theorem ws (p : List Ix) (k : Nat) : dO (p ++ [.off k]) = dO p + k := by
 induction p with
 | nil => simp [dO]
 | cons x p ih => cases x <;> simp [dO, ih, bD]
theorem yw (p : List Ix) (k : Nat) (h : lW p) : lW (p ++ [.off k]) := by
 induction p with
 | nil => trivial
 | cons x p ih => cases x with
  | ix i m sz => exact ⟨h.1, ih h.2⟩
  | off k => exact ih h
theorem Mr (p : List Ix) (i m sz : Nat) : dO (p ++ [.ix i m sz]) = dO p + i * sz := by
 induction p with
 | nil => simp [dO]
 | cons x p ih => cases x <;> simp [dO, ih, bD]
theorem Ni (p : List Ix) {i m sz : Nat} (hi : i < m) (h : lW p) : lW (p ++ [.ix i m sz]) := by
 induction p with
 | nil => exact ⟨hi, trivial⟩
 | cons x p ih => cases x with
  | ix i m sz => exact ⟨h.1, ih h.2⟩
  | off k => exact ih h
theorem qZ (ad : Addr) (n m : Nat) : (ad.add n).add m = ad.add (n + m) := Go.Deep.add_add ad n m
theorem Aw : ∀ {its r : List DV} {o : Nat}, jJ o its = some r → ∀ d ∈ r, d ∈ its
 | [], r, o, h, d, hd => by
  simp only [jJ] at h
  split at h
  ·simp only [ab] at h; subst h; exact hd
  ·cases h
 | x :: l, r, o, h, d, hd => by
  simp only [jJ] at h
  split at h
  ·simp only [ab] at h; subst h; exact hd
  ·split at h
   ·exact az _ (Aw h d hd)
   ·cases h
theorem q9 {ad : Addr} (h : ad.spot = none) (n : Nat) : (ad.add n).spot = none := by unfold Addr.add; split <;> first | exact h | rfl
theorem BK {t : TypeId} {d v : DV} {u : Value} {f : Nat} (hd : VR I w d u) (h : qV P t d f = some v) : jd P I w (Instr.fieldAt t u f) v := by
 unfold qV at h
 split at h
 ·rename_i o ft hf
  obtain ⟨fs, g, hu, hg, rfl, rfl, hz⟩ := yu hf
  split at h
  ·rename_i n o' p
   cases hd with | ptr _ _ _ b hb hp =>
   refine ⟨_, pH hu hg hz, ?_⟩
   rw [Addr.add_mid]
   split at h
   ·simp only [ab] at h
    subst h
    have := VR.ptr (I := I) (w := w) n (o' + g.offset) [] b hb trivial
    simpa [dO] using this
   ·simp only [ab] at h
    subst h
    have := VR.ptr (I := I) (w := w) n o' (p ++ [.off g.offset]) b hb (yw p _ hp)
    rw [ws, ← bD] at this
    exact this
  ·rename_i n sz i p
   cases hd with | rp _ _ _ _ b len cap hb hi hp =>
   refine ⟨_, pH hu hg hz, ?_⟩
   rw [Addr.add_mid]
   simp only [ab] at h
   subst h
   have := VR.rp (I := I) (w := w) n sz i (p ++ [.off g.offset]) b len cap hb hi (yw p _ hp)
   rw [ws, ← bD] at this
   exact this
  ·rename_i its
   cases hd with | pi _ ad cs h0 hR him hC hc =>
   refine ⟨_, pH hu hg hz, ?_⟩
   split at h
   ·rename_i r hr
    simp only [ab] at h
    subst h
    obtain ⟨c1, c2, rfl, l1, _, k1⟩ := md hr hC
    refine .pi r _ c2 (q9 h0 _) (by rw [gp]; exact hR) (fun d hd => him d (Aw hr d hd)) k1 (fun j u hu => ?_)
    rw [qZ]
    refine hc _ u ?_
    rw [aW (by omega), ← hu]
    congr 1
    omega
   ·cases h
  ·cases h
 ·cases h
end
section
variable {P : Program} {I : In} {w : World} {T : List DV} {a : Act} {H : Heap} {α : Type}
theorem fK {e : TypeId} {n : Nat} (h : i7 P e n = true) : ∃ i, P.info? e = some i ∧ i.size = n := by
 unfold i7 at h
 split at h
 ·rename_i i hi
  exact ⟨i, hi, by simpa using h⟩
 ·cases h
theorem tw {t : TypeId} {n : Nat} (h : th P t n = true) : ∃ e i, P.underlying t = some (.slice e) ∧ P.info? e = some i ∧ i.size = n := by
 unfold th at h
 split at h
 ·rename_i e hu
  obtain ⟨i, h1, h2⟩ := fK h
  exact ⟨e, i, hu, h1, h2⟩
 ·cases h
theorem jX {t e : TypeId} {i : TypeInfo} {ad : Addr} {len cap : Nat} {kd : IntKind} {j : Int} (hu : P.underlying t = some (.slice e)) (hi : P.info? e = some i) (h0 : 0 ≤ j) (h1 : j < (len : Int)) :
  (Instr.indexAt t (.slice (some ad) len cap) (.int kd j)).run P w = .ok (.pointer (some (ad.add (j.toNat * i.size)))) w := by
 simp [Instr.indexAt, Sem.run_bind, asIntOf, run_underlying hu, h0, h1, sizeOf, typeInfo, hi]
theorem jY {t e : TypeId} {i : TypeInfo} {ad : Addr} {len : Nat} {kd : IntKind} {j : Int} (hu : P.underlying t = some (.array len e)) (hi : P.info? e = some i) (h0 : 0 ≤ j) (h1 : j < (len : Int)) :
  (Instr.indexAt t (.pointer (some ad)) (.int kd j)).run P w = .ok (.pointer (some (ad.add (j.toNat * i.size)))) w := by
 simp [Instr.indexAt, Sem.run_bind, asIntOf, run_underlying hu, h0, h1, sizeOf, typeInfo, hi, Instr.sureAddr]
theorem jN {n : Nat} {E : TypeId} {s : Sh} {xs : List s.T} (hH : HR I w H) (h : H n = some (.row E s xs)) {sz : Nat} {A : Option Addr} {len cap : Nat} (hi : I.ι n = some (.row sz (.slice A len cap))) :
  sz = s.sz ∧ len = xs.length ∧ len ≤ cap ∧ (0 < len → ∃ b, A = some ⟨b, 0, none⟩) := by
 obtain ⟨v, cs, h1, h2, h3⟩ := hH.row n E s xs h
 rw [hi] at h1
 simp only [ab, Ent.row.injEq] at h1
 obtain ⟨rfl, rfl⟩ := h1
 rcases h2.2 with ⟨e, e0⟩ | ⟨g, c, cur, e, _, _, hcap, _⟩
 ·simp only [Value.slice.injEq] at e
  obtain ⟨rfl, rfl, rfl⟩ := e
  exact ⟨rfl, by omega, ak _, fun h => by omega⟩
 ·simp only [Value.slice.injEq] at e
  obtain ⟨rfl, rfl, rfl⟩ := e
  exact ⟨rfl, rfl, hcap, fun _ => ⟨g, rfl⟩⟩
theorem EH {t : TypeId} {d : DV} {u : Value} {kd : IntKind} {i : Int} {k : DV → Option α} {r : α} (hH : HR I w H) (hd : VR I w d u) (h : iH P t H d i k = some r) : ∃ v, k v = some r ∧ jd P I w (Instr.indexAt t u (.int kd i)) v := by
 unfold iH at h
 split at h
 ·rename_i s xs
  cases hd with | vs _ _ _ hk =>
  split at h
  ·rename_i he
   split at h
   ·rename_i hb
    obtain ⟨h0, h1, h2⟩ := jM hb
    obtain ⟨e, inf, hu, hi, hs⟩ := tw he
    obtain ⟨A, cap, e1, e2, e3⟩ := hk
    simp only [bm, aZ] at e1
    subst e1
    have hne : xs ≠ [] := by
     intro e
     rw [e] at h2
     simp at h2
    obtain ⟨ad, rfl, g1, g2, g3⟩ := e3 hne
    obtain ⟨c, m1, m2, m3⟩ := g3 _ _ (getD_some xs i.toNat s.dflt h2)
    refine ⟨_, h, _, jX hu hi h0 h1, ?_⟩
    rw [hs]
    exact .pi _ _ c (q9 g1 _) (by rw [gp]; exact g2) (Sh.enc_imm s _) (Sh.enc_ok m2) (fun j q hq => by rw [qZ]; exact m3 j q hq)
   ·cases h
  ·cases h
 ·rename_i n
  cases hd with | rw _ sz v hi hs =>
  split at h
  ·rename_i E s xs hrow
   split at h
   ·rename_i he
    split at h
    ·rename_i hb
     obtain ⟨h0, h1, h2⟩ := jM hb
     obtain ⟨A, l, c, rfl⟩ := hs
     obtain ⟨rfl, rfl, _, hA⟩ := jN hH hrow hi
     obtain ⟨b, rfl⟩ := hA (by omega)
     obtain ⟨e, inf, hu, hinf, hsz⟩ := tw he
     refine ⟨_, h, _, jX hu hinf h0 h1, ?_⟩
     rw [hsz, Addr.add_mid, bw]
     exact .rp n s.sz i.toNat [] b _ c hi h2 trivial
    ·cases h
   ·cases h
  ·cases h
 ·rename_i n o l
  cases hd with | sl _ _ _ sz A A' len cap cap' hi hl h0' h1' hc' =>
  split at h
  ·rename_i E s xs hrow
   split at h
   ·rename_i he
    split at h
    ·rename_i hb
     obtain ⟨h0, h1, h2⟩ := jM hb
     obtain ⟨rfl, rfl, _, hA⟩ := jN hH hrow hi
     obtain ⟨b, rfl, rfl⟩ := h1' (by omega)
     obtain ⟨e, inf, hu, hinf, hsz⟩ := tw he
     refine ⟨_, h, _, jX hu hinf h0 h1, ?_⟩
     rw [hsz, Addr.add_mid, ← bH]
     have := VR.rp (I := I) (w := w) n s.sz (o + i.toNat) [] b _ cap hi (by omega) trivial
     simpa [dO] using this
    ·cases h
   ·cases h
  ·cases h
 ·rename_i n o p
  cases hd with | ptr _ _ _ b hb hp =>
  split at h
  ·rename_i m e hu
   split at h
   ·rename_i cs hcs
    split at h
    ·rename_i its hits
     split at h
     ·rename_i s m' ys r' hat
      split at h
      ·rename_i hm
       subst hm
       split at h
       ·rename_i hz
        split at h
        ·rename_i hbd
         obtain ⟨h0, h1, h2⟩ := jM hbd
         obtain ⟨inf, hinf, hsz⟩ := fK hz
         refine ⟨_, h, _, jY hu hinf h0 h1, ?_⟩
         rw [hsz, Addr.add_mid]
         have := VR.ptr (I := I) (w := w) n o (p ++ [.ix i.toNat m' s.sz]) b hb (Ni p h2 hp)
         rw [Mr, ← bD] at this
         exact this
        ·cases h
       ·cases h
      ·cases h
     ·split at h
      ·split at h
       ·rename_i hz
        split at h
        ·rename_i hbd
         obtain ⟨h0, h1, h2⟩ := jM hbd
         obtain ⟨inf, hinf, hsz⟩ := fK hz
         refine ⟨_, h, _, jY hu hinf h0 h1, ?_⟩
         rw [hsz, Addr.add_mid]
         have := VR.ptr (I := I) (w := w) n (o + i.toNat * dI P e) [] b hb trivial
         simpa [dO] using this
        ·cases h
       ·cases h
      ·cases h
     ·cases h
    ·cases h
   ·cases h
  ·cases h
 ·rename_i its
  cases hd with | pi _ ad cs h0' hR him hC hc =>
  split at h
  ·rename_i m e hu
   split at h
   ·rename_i s m' ys r'
    split at h
    ·rename_i hm
     subst hm
     split at h
     ·rename_i hz
      split at h
      ·rename_i hbd
       obtain ⟨h0, h1, h2⟩ := jM hbd
       obtain ⟨inf, hinf, hsz⟩ := fK hz
       obtain ⟨c1, c2, rfl, k1, k2⟩ := hC.arrH
       obtain ⟨g1, g2⟩ := w7 k1 h2
       refine ⟨_, h, _, jY hu hinf h0 h1, ?_⟩
       rw [hsz]
       refine .pi _ _ _ (q9 h0' _) (by rw [gp]; exact hR) (Sh.enc_imm s _) (Sh.enc_ok g1) (fun j q hq => ?_)
       rw [qZ]
       refine hc _ q ?_
       rw [aP] at hq
       split at hq
       ·rw [aV] at hq
        rw [aO (List.getElem?_eq_some_iff.1 hq).1]
        exact hq
       ·cases hq
      ·cases h
     ·cases h
    ·cases h
   ·cases h
  ·cases h
 ·cases h
theorem Ms {t ty : TypeId} {d : DV} {u : Value} {n : Nat} (hH : HR I w H) (hd : VR I w d u) (h : zL P t H d = some n) : (Builtin.len_ #[t] ty #[u]).run P w = .ok (.int .i64 (n : Int)) w := by
 unfold zL at h
 split at h
 ·rename_i hu
  split at h
  ·simp only [ab] at h
   obtain rfl := hd.sc_eq
   subst h
   simp [Builtin.len_, Sem.run_bind, run_underlying hu, goInt]
  ·cases h
 ·rename_i e hu
  have fin : ∀ A l c, u = .slice A l c → l = n → (Builtin.len_ #[t] ty #[u]).run P w = .ok (.int .i64 (n : Int)) w := by
   rintro A l c rfl rfl
   simp [Builtin.len_, Sem.run_bind, run_underlying hu, goInt]
  split at h
  ·split at h
   ·rename_i hz
    simp only [ab] at h
    obtain rfl := hd.sc_eq
    exact fin _ _ _ rfl (by omega)
   ·cases h
  ·simp only [ab] at h
   cases hd with | vs _ _ _ hk =>
   obtain ⟨A, cap, e1, _⟩ := hk
   simp only [bm, aZ] at e1
   exact fin _ _ _ e1 h
  ·split at h
   ·rename_i E s xs hrow
    simp only [ab] at h
    cases hd with | rw _ sz v hi hs =>
    obtain ⟨A, l, c, rfl⟩ := hs
    obtain ⟨_, h2, _⟩ := jN hH hrow hi
    exact fin _ _ _ rfl (by omega)
   ·cases h
  ·simp only [ab] at h
   cases hd with | sl _ _ _ sz A A' len cap cap' hi hl h0' h1' hc' => exact fin _ _ _ rfl h
  ·simp only [ab] at h
   cases hd with | ps _ _ _ _ _ b cap hb hp hl hm => exact fin _ _ _ rfl h
  ·cases h
 ·rename_i m e hu
  simp only [ab] at h
  subst h
  simp only [Builtin.len_, List.getElem?_toArray, bu]
  rw [Sem.run_bind, run_underlying hu, Result.andThen_ok]
  cases u <;> rfl
 ·cases h
theorem Ax {d : DV} {u : Value} {n : Nat} {k : Nat → Option α} {r : α} (hd : VR I w d u) (h : lq d n k = some r) : ∃ l, k l = some r ∧ l ≤ n ∧ ∀ y c, n ≤ y → (Instr.sliceBound u y c).run P w = .ok l w := by
 unfold lq at h
 split at h
 ·rename_i kd i
  obtain rfl := hd.sc_eq
  split at h
  ·rename_i hc
   simp only [aj, av] at hc
   refine ⟨_, h, by omega, fun y c hy => ?_⟩
   have : i ≤ (y : Int) := by omega
   simp [Instr.sliceBound, Sem.run_bind, asIntOf, hc, this]
  ·cases h
 ·cases h
theorem E8 {lo : Option DV} {lo' : Option Value} {k : Nat → Nat → Option α} {q : Nat} {r : α} (hlo : (lo = none ∧ lo' = none) ∨ ∃ d u, lo = some d ∧ lo' = some u ∧ VR I w d u) (h : tj lo k q = some r) : ∃ l, k l q = some r ∧ l ≤ q ∧ ((match lo' with
  | some v => Instr.sliceBound v q .sliceB
  | none => pure 0) : Sem Nat).run P w = .ok l w := by
 rcases hlo with ⟨rfl, rfl⟩ | ⟨d, u, rfl, rfl, hd⟩
 ·exact ⟨0, h, ay _, rfl⟩
 ·obtain ⟨l, h1, h2, h3⟩ := Ax (P := P) (k := fun l => k l q) hd h
  exact ⟨l, h1, h2, h3 q .sliceB (ak _)⟩
theorem lx {n cap : Nat} {lo hi : Option DV} {lo' hi' : Option Value} {k : Nat → Nat → Option α} {r : α} (b : Bool) (hcap : n ≤ cap) (hlo : (lo = none ∧ lo' = none) ∨ ∃ d u, lo = some d ∧ lo' = some u ∧ VR I w d u) (hhi : (hi = none ∧ hi' = none) ∨ ∃ d u, hi = some d ∧ hi' = some u ∧ VR I w d u)
  (h : fI n lo hi k = some r) : ∃ l q, k l q = some r ∧ l ≤ q ∧ q ≤ n ∧ (Instr.sliceBounds b n cap lo' hi' none).run P w = .ok (l, q, cap) w := by
 unfold fI at h
 rcases hhi with ⟨rfl, rfl⟩ | ⟨d, u, rfl, rfl, hd⟩
 ·obtain ⟨l, h1, h2, h3⟩ := E8 (P := P) hlo h
  refine ⟨l, n, h1, h2, ak _, ?_⟩
  cases lo' with
  | none => simp only [Instr.sliceBounds, Sem.run_bind, Sem.run_pure, Result.andThen_ok] at h3 ⊢; simp_all
  | some v => simp only [Instr.sliceBounds, Sem.run_bind, Sem.run_pure, Result.andThen_ok, Option.isSome_none, aL, aC] at h3 ⊢; rw [h3]; rfl
 ·obtain ⟨q, h1, h2, h3⟩ := Ax (P := P) (k := tj lo k) hd h
  obtain ⟨l, g1, g2, g3⟩ := E8 (P := P) hlo h1
  refine ⟨l, q, g1, g2, h2, ?_⟩
  cases lo' with
  | none => simp only [Instr.sliceBounds, Sem.run_bind, Sem.run_pure, Result.andThen_ok, h3 cap _ hcap] at g3 ⊢; simp_all
  | some v => simp only [Instr.sliceBounds, Sem.run_bind, Sem.run_pure, Result.andThen_ok, h3 cap _ hcap, Option.isSome_none, aL, aC] at g3 ⊢; rw [g3]; rfl
theorem Pz {R : RO} {s : Sh} {xs : List s.T} {A : Option Addr} {cap l q : Nat} (h : (Sh.sl s).K R w xs [.slice A xs.length cap]) (h1 : l ≤ q) (h2 : q ≤ xs.length) :
  (Sh.sl s).K R w ((xs.take q).drop l) [.slice (if cap = l then A else A.map (·.add (l * s.sz))) (q - l) (cap - l)] := by
 obtain ⟨A0, cap0, e, g2, g3⟩ := h
 simp only [bm, Value.slice.injEq, aZ, true_and] at e
 obtain ⟨rfl, rfl⟩ := e
 have hlen : ((xs.take q).drop l).length = q - l := by simp; omega
 refine ⟨_, _, by rw [hlen], by rw [hlen]; omega, fun hn => ?_⟩
 have hlt : l < q := by
  rcases am l q with h | h
  ·exact h
  ·exact absurd (bn (by omega)) hn
 have hne : xs ≠ [] := by
  intro e
  rw [e] at h2
  simp at h2
  omega
 obtain ⟨ad, rfl, m1, m2, m3⟩ := g3 hne
 rw [if_neg (by omega)]
 refine ⟨_, rfl, q9 m1 _, by rw [gp]; exact m2, fun i x hx => ?_⟩
 have hx2 : xs[l + i]? = some x := by
  rw [aV, aP] at hx
  split at hx
  ·exact hx
  ·cases hx
 obtain ⟨c, k1, k2, k3⟩ := m3 _ x hx2
 refine ⟨c, k1, k2, fun j u hu => ?_⟩
 have := k3 j u hu
 rw [qZ, ← this]
 congr 2
 rw [bH]
 omega
theorem Hz {t : TypeId} {d : DV} {u : Value} {lo hi mx : Option DV} {lo' hi' mx' : Option Value} {k : DV → Option α} {r : α} (hH : HR I w H) (hd : VR I w d u) (hlo : (lo = none ∧ lo' = none) ∨ ∃ d u, lo = some d ∧ lo' = some u ∧ VR I w d u) (hhi : (hi = none ∧ hi' = none) ∨ ∃ d u, hi = some d ∧ hi' = some u ∧ VR I w d u) (hmx : mx = none → mx' = none)
  (h : lr P t H d lo hi mx k = some r) : ∃ v, k v = some r ∧ jd P I w (Instr.sliceAt t u lo' hi' mx') v := by
 unfold lr at h
 split at h
 ·cases h
 ·obtain rfl := hmx rfl
  split at h
  ·rename_i s hu
   obtain rfl := hd.sc_eq
   obtain ⟨l, q, h1, h2, h3, h4⟩ := lx (P := P) false (ak _) hlo hhi h
   refine ⟨_, h1, _, ?_, .sc _ rfl⟩
   simp [Instr.sliceAt, Instr.slice, Sem.run_bind, run_underlying hu, h4]
  ·rename_i e s xs hu
   cases hd with | vs _ _ _ hk =>
   split at h
   ·rename_i hz
    obtain ⟨inf, hinf, hsz⟩ := fK hz
    obtain ⟨A, cap, e1, e2, e3⟩ := id hk
    simp only [bm, aZ] at e1
    subst e1
    obtain ⟨l, q, h1, h2, h3, h4⟩ := lx (P := P) true e2 hlo hhi h
    refine ⟨_, h1, _, ?_, .vs s _ _ (Pz hk h2 h3)⟩
    simp [Instr.sliceAt, Instr.slice, Sem.run_bind, run_underlying hu, h4, sizeOf, typeInfo, hinf, hsz]
   ·cases h
  ·rename_i m e n o p hu
   cases hd with | ptr _ _ _ b hb hp =>
   split at h
   ·cases h
   ·obtain rfl : lo' = none := by
     rcases hlo with ⟨_, h⟩ | ⟨_, _, h, _⟩
     ·exact h
     ·cases h
    split at h
    ·rename_i cs hcs
     split at h
     ·rename_i s m' ys r' hat
      split at h
      ·rename_i hm
       subst hm
       split at h
       ·rename_i hz
        obtain ⟨inf, hinf, hsz⟩ := fK hz
        obtain ⟨l, q, h1, h2, h3, h4⟩ := lx (P := P) false (ak _) (.inl ⟨rfl, rfl⟩) hhi h
        split at h1
        ·rename_i hl0
         subst hl0
         refine ⟨_, h1, .slice (some ⟨b, o + dO p, none⟩) q m', ?_, .ps n o p m' q b m' hb hp h3 h3⟩
         simp [Instr.sliceAt, Instr.sureAddr, Sem.run_bind, run_underlying hu, h4, sizeOf, typeInfo, hinf]
         exact fun _ => rfl
        ·cases h1
       ·cases h
      ·cases h
     ·cases h
    ·cases h
  ·rename_i e n hu
   cases hd with | rw _ sz v hi hs =>
   split at h
   ·rename_i E s xs hrow
    split at h
    ·rename_i hE
     subst hE
     split at h
     ·rename_i hz
      obtain ⟨inf, hinf, hsz⟩ := fK hz
      obtain ⟨A, len, cap, rfl⟩ := hs
      obtain ⟨rfl, rfl, hcap, hA⟩ := jN hH hrow hi
      obtain ⟨l, q, h1, h2, h3, h4⟩ := lx (P := P) true hcap hlo hhi h
      refine ⟨_, h1, .slice (if cap = l then A else A.map (·.add (l * s.sz))) (q - l) (cap - l), ?_, ?_⟩
      ·simp [Instr.sliceAt, Instr.slice, Sem.run_bind, run_underlying hu, h4, sizeOf, typeInfo, hinf, hsz]
      ·refine .sl n l (q - l) s.sz A _ xs.length cap _ hi (by omega) (fun h0 => ?_) (fun hp => ?_) (by omega)
       ·subst h0
        refine ⟨?_, by omega⟩
        split
        ·rfl
        ·cases A <;> simp [show ∀ ad : Addr, ad.add 0 = ad from fun _ => rfl]
       ·obtain ⟨b, rfl⟩ := hA (by omega)
        refine ⟨b, rfl, ?_⟩
        rw [if_neg (by omega)]
        simp [Addr.add_mid]
     ·cases h
    ·cases h
   ·cases h
  ·rename_i e n o m hu
   cases hd with | sl _ _ _ sz A A' len cap cap' hi hl h0' h1' hc' =>
   split at h
   ·rename_i E s xs hrow
    split at h
    ·rename_i hE
     subst hE
     split at h
     ·rename_i hz
      obtain ⟨inf, hinf, hsz⟩ := fK hz
      obtain ⟨rfl, rfl, hcap, hA⟩ := jN hH hrow hi
      obtain ⟨l, q, h1, h2, h3, h4⟩ := lx (P := P) true hc' hlo hhi h
      refine ⟨_, h1, .slice (if cap' = l then A' else A'.map (·.add (l * s.sz))) (q - l) (cap' - l), ?_, ?_⟩
      ·simp [Instr.sliceAt, Instr.slice, Sem.run_bind, run_underlying hu, h4, sizeOf, typeInfo, hinf, hsz]
      ·refine .sl n (o + l) (q - l) s.sz A _ xs.length cap _ hi (by omega) (fun h0 => ?_) (fun hp => ?_) (by omega)
       ·have ho : o = 0 := by omega
        have hl0 : l = 0 := by omega
        subst ho
        subst hl0
        obtain ⟨rfl, rfl⟩ := h0' rfl
        refine ⟨?_, by omega⟩
        split
        ·rfl
        ·cases A' <;> simp [show ∀ ad : Addr, ad.add 0 = ad from fun _ => rfl]
       ·obtain ⟨b, rfl, rfl⟩ := h1' (by omega)
        refine ⟨b, rfl, ?_⟩
        rw [if_neg (by omega)]
        simp [Addr.add_mid, bH]
     ·cases h
    ·cases h
   ·cases h
  ·cases h
end
section
variable {P : Program} {I : In} {w : World} {T : List DV} {a : Act} {H : Heap} {α : Type}
theorem ow {d : DV} {v : Value} (h : VR I w d v) (hs : d.storable = true) : CR I w d.items v.cells.toList := by
 have one : ∀ {d : DV} {v : Value}, VR I w d v → v.oneCell' = true → CR I w [d] v.cells.toList := by
  intro d v h h1
  rw [Hr h1]
  exact .one _ _ _ _ h h1 .nil
 cases h with
 | undef v => cases hs
 | sc v h1 => exact one (.sc _ h1) h1
 | ptr n o p b h1 hp => exact one (.ptr n o p b h1 hp) rfl
 | rp n sz i p b len cap h1 hi hp => exact one (.rp n sz i p b len cap h1 hi hp) rfl
 | pi its ad cs h0 hR him hC hc => exact one (.pi its ad cs h0 hR him hC hc) rfl
 | rw n sz v h1 h2 =>
  obtain ⟨A, l, c, rfl⟩ := id h2
  exact one (.rw n sz _ h1 h2) rfl
 | sl n o l sz A A' len cap cap' h1 hl h0 h1' hc => exact one (.sl n o l sz A A' len cap cap' h1 hl h0 h1' hc) rfl
 | vs s xs v hk =>
  have := Sh.K_one hk v (by simp)
  exact one (.vs s xs v hk) this
 | fn F a b a' b' h1 h2 => exact one (.fn F a b a' b' h1 h2) rfl
 | agg ds cs hc => exact hc
 | tup ds vs h => cases hs
 | tab ks vs us b es cl hR hb hE h => exact one (.tab ks vs us b es cl hR hb hE h) rfl
 | mh n b h => exact one (.mh n b h) rfl
 | fp t n v h => exact one (.fp t n v h) (Sh.K_one h v (by simp))
 | ps n o p m l b cap h hp hl hm => exact one (.ps n o p m l b cap h hp hl hm) rfl
def In.put (I : In) (n : Nat) (e : Ent) : In := ⟨fun m => if m = n then some e else I.ι m, I.R⟩
theorem du {I : In} {n : Nat} {e : Ent} : (I.put n e).ι n = some e := by simp [In.put]
theorem dk {I : In} {n m : Nat} {e : Ent} (h : m ≠ n) : (I.put n e).ι m = I.ι m := by simp [In.put, h]
theorem nP {I : In} {n m : Nat} {e : Ent} {t : TypeId} {B : Nat → Nat → Prop} (h0 : ∀ t B, I.ι n ≠ some (.fam t B)) (he : ∀ t B, e ≠ .fam t B) : (I.put n e).ι m = some (.fam t B) ↔ I.ι m = some (.fam t B) := by
 by_cases hm : m = n
 ·subst hm
  rw [du]
  exact ⟨fun h => absurd (au h) (he t B), fun h => absurd h (h0 t B)⟩
 ·rw [dk hm]
theorem Heap.set_same {H : Heap} {n : Nat} {b : Option Blk} : H.set n b n = b := by simp [Heap.set]
theorem dS {H : Heap} {n m : Nat} {b : Option Blk} (h : m ≠ n) : H.set n b m = H m := by simp [Heap.set, h]
theorem rc (w : World) (o : Obj) {b : Nat} (h : b < w.heap.size) : (w.alloc o).heap[b]? = w.heap[b]? := Below.heap_alloc w o b h
theorem re (w : World) (o : Obj) : (w.alloc o).heap[w.heap.size]? = some o := Go.heap_alloc_new w o
theorem pI (w : World) (o : Obj) : (w.alloc o).heap.size = w.heap.size + 1 := World.size_alloc w o
theorem Same.alloc (hH : HR I w H) {n : Nat} (hn : H n = none) (e : Ent) (o : Obj) : Same I (I.put n e) w (w.alloc o) := by
 have h0 := hH.dom n hn
 refine ⟨⟨fun b h => h, fun b h => rc w o (hH.rlt b h), fun _ _ _ h => h⟩, fun m b h => ?_, fun m sz v h => ?_⟩
 ·rw [dk]
  ·exact h
  ·rintro rfl; rw [h0] at h; cases h
 ·rw [dk]
  ·exact h
  ·rintro rfl; rw [h0] at h; cases h
def BR (I : In) (w : World) (n : Nat) : Blk → Prop
 | .obj cs => ∃ b c t, I.ι n = some (.obj b) ∧ w.heap[b]? = some (.cells c t (0, 0)) ∧ CR I w cs c.toList
 | .row E s xs => ∃ v cs, I.ι n = some (.row s.sz v) ∧ w.ownsRow 0 E s.sz v xs.length cs ∧ (Sh.arr xs.length s).K I.R w xs cs
 | .mp ks vs => MR I w n ks vs
 | .fam t k xs => FamR I w n t k xs
theorem HR.br (hH : HR I w H) {n : Nat} {b : Blk} (h : H n = some b) : BR I w n b := by
 cases b with
 | obj cs => exact hH.obj n cs h
 | row E s xs => exact hH.row n E s xs h
 | mp ks vs => exact hH.mp n ks vs h
 | fam t k xs => exact hH.fam n t k xs h
theorem HR.of {I : In} {w : World} {H : Heap} (h : ∀ n b, H n = some b → BR I w n b) (dom : ∀ n, H n = none → I.ι n = none) (lt : ∀ n e b, I.ι n = some e → e.has b → b < w.heap.size ∧ ¬ I.R b)
  (inj : ∀ n m e e' b, I.ι n = some e → I.ι m = some e' → e.has b → e'.has b → n = m) (rlt : ∀ b, I.R b → b < w.heap.size) (one : ∀ n m t B B', I.ι n = some (.fam t B) → I.ι m = some (.fam t B') → n = m) : HR I w H :=
 ⟨fun n cs h1 => h n _ h1, fun n E s xs h1 => h n _ h1, fun n ks vs h1 => h n _ h1, fun n t k xs h1 => h n _ h1, dom, lt, inj, rlt, one⟩
theorem ox {w w' : World} {base : Nat} {E : TypeId} {sz : Nat} {v : Value} {n : Nat} {xs : List Value} (h : w.ownsRow base E sz v n xs) (hb : ∀ b, v.ownBlock = some b → w'.heap[b]? = w.heap[b]?) : w'.ownsRow base E sz v n xs := by
 refine ⟨h.1, ?_⟩
 rcases h.2 with h1 | ⟨g, cap, cur, rfl, h2, h3, h4⟩
 ·exact .inl h1
 ·exact .inr ⟨g, cap, cur, rfl, h2, (hb g rfl).trans h3, h4⟩
theorem MemR.keep {R R' : RO} {w w' : World} (hk : Keeps R R' w w') {k : List EK} {x : f9 k} {b : Nat} {B : Nat → Prop} (h : MemR R w k x b B) (hb : ∀ c, B c → w'.heap[c]? = w.heap[c]?) : MemR R' w' k x b B := by
 obtain ⟨ι, h1, ⟨c, t, h2, h3⟩, h4, h5, h6, h7, h8⟩ := h
 have hs : Same ⟨ι, R⟩ ⟨ι, R'⟩ w w' := ⟨hk, fun _ _ h => h, fun _ _ _ h => h⟩
 refine ⟨ι, h1, ⟨c, t, (hb b (h7 0 _ b h1 rfl)).trans h2, CR.keep hs h3⟩, fun n E s xs hn => ?_, h5, h6, h7, h8⟩
 obtain ⟨v, cs, g1, g2, g3⟩ := h4 n E s xs hn
 exact ⟨v, cs, g1, ox g2 (fun g hg => hb g (h7 n _ g g1 hg)), Sh.K_keep hk g3⟩
theorem FamR.keep {I I' : In} {w w' : World} {n : Nat} {t : TypeId} {k : List EK} {xs : List (f9 k)} (hk : Keeps I.R I'.R w w') (hf : ∀ B, I.ι n = some (.fam t B) → I'.ι n = some (.fam t B) ∧ I'.R.fam t = I.R.fam t) (h : FamR I w n t k xs) (hb : ∀ e g, I.ι n = some e → e.has g → w'.heap[g]? = w.heap[g]?) : FamR I' w' n t k xs := by
 obtain ⟨B, h1, h2, h3, h4, h5⟩ := h
 obtain ⟨g1, g2⟩ := hf B h1
 refine ⟨B, g1, by rw [g2]; exact h2, fun i x b hx hb' => ?_, h4, h5⟩
 rw [g2] at hb'
 exact (h3 i x b hx hb').keep hk (fun c hc => hb _ c h1 ⟨i, hc⟩)
theorem BR.keep {I I' : In} {w w' : World} (hs : Same I I' w w') {n : Nat} {b : Blk} (h : BR I w n b) (hf : ∀ t B, I.ι n = some (.fam t B) → I'.ι n = some (.fam t B) ∧ I'.R.fam t = I.R.fam t) (hb : ∀ e g, I.ι n = some e → e.has g → w'.heap[g]? = w.heap[g]?) : BR I' w' n b := by
 cases b with
 | obj cs =>
  obtain ⟨b, c, t, h1, h2, h3⟩ := h
  exact ⟨b, c, t, hs.obj _ _ h1, (hb _ b h1 rfl).trans h2, CR.keep hs h3⟩
 | row E s xs =>
  obtain ⟨v, cs, h1, h2, h3⟩ := h
  exact ⟨v, cs, hs.row _ _ _ h1, ox h2 (fun g hg => hb _ g h1 hg), Sh.K_keep hs.keeps h3⟩
 | mp ks vs => exact MR.keep hs h (fun b hb' => hb _ b hb' rfl)
 | fam t k xs => exact FamR.keep hs.keeps (fun B hB => hf t B hB) h hb
theorem HR.alloc (hH : HR I w H) {n : Nat} (hn : H n = none) {e : Ent} {o : Obj} (he : ∀ b, e.has b → b = w.heap.size) (hf : ∀ t B, e ≠ .fam t B) {b : Blk} (hb : BR (I.put n e) (w.alloc o) n b) : HR (I.put n e) (w.alloc o) (H.set n (some b)) := by
 have h0 := hH.dom n hn
 have hs := Same.alloc hH hn e o
 refine HR.of (fun m b' h => ?_) (fun m h => ?_) (fun m e' b' h hb' => ?_) (fun m m' e1 e2 b' h1 h2 g1 g2 => ?_) (fun b' h => ?_) (fun m m' t B B' h1 h2 => ?_)
 ·by_cases hm : m = n
  ·subst hm
   rw [Heap.set_same] at h
   simp only [ab] at h
   subst h
   exact hb
  ·rw [dS hm] at h
   exact (hH.br h).keep hs (fun t B h1 => ⟨by rw [dk hm]; exact h1, rfl⟩) (fun e' g h1 h2 => rc w o (hH.lt m e' g h1 h2).1)
 ·by_cases hm : m = n
  ·subst hm; rw [Heap.set_same] at h; cases h
  ·rw [dS hm] at h
   rw [dk hm]
   exact hH.dom m h
 ·rw [pI]
  by_cases hm : m = n
  ·subst hm
   rw [du] at h
   simp only [ab] at h
   subst h
   have := he b' hb'
   subst this
   exact ⟨by omega, fun hR => by have := hH.rlt _ hR; omega⟩
  ·rw [dk hm] at h
   obtain ⟨k1, k2⟩ := hH.lt m e' b' h hb'
   exact ⟨by omega, k2⟩
 ·by_cases hm : m = n
  ·by_cases hm' : m' = n
   ·rw [hm, hm']
   ·exfalso
    subst hm
    rw [du] at h1
    rw [dk hm'] at h2
    simp only [ab] at h1
    subst h1
    have := he b' g1
    have := (hH.lt m' e2 b' h2 g2).1
    omega
  ·by_cases hm' : m' = n
   ·exfalso
    subst hm'
    rw [du] at h2
    rw [dk hm] at h1
    simp only [ab] at h2
    subst h2
    have := he b' g2
    have := (hH.lt m e1 b' h1 g1).1
    omega
   ·rw [dk hm] at h1
    rw [dk hm'] at h2
    exact hH.inj m m' e1 e2 b' h1 h2 g1 g2
 ·rw [pI]
  have := hH.rlt b' h
  omega
 ·have key : ∀ m B, (I.put n e).ι m = some (.fam t B) → I.ι m = some (.fam t B) := fun m B h => by
   by_cases hm : m = n
   ·subst hm
    rw [du] at h
    simp only [ab] at h
    exact absurd h (hf t B)
   ·rw [dk hm] at h
    exact h
  exact hH.one m m' t B B' (key m B h1) (key m' B' h2)
theorem Ext.alloc (hH : HR I w H) {n : Nat} (hn : H n = none) {e : Ent} {o : Obj} (he : ∀ b, e.has b → b = w.heap.size) (hf : ∀ t B, e ≠ .fam t B) : Ext I w (I.put n e) (w.alloc o) := by
 have h0 := hH.dom n hn
 refine ⟨fun m b h => ?_, fun b h => h, fun b hb _ => rc w o hb, fun m e' b h hb => ?_, fun b h => .inl h, by rw [pI]; omega, rfl, rfl, rfl, fun _ _ _ h => h, fun t ht => ⟨rfl, fun m B h => ?_⟩⟩
 ·rw [dk]
  ·exact h
  ·rintro rfl; rw [h0] at h; cases h
 ·by_cases hm : m = n
  ·subst hm
   rw [du] at h
   simp only [ab] at h
   subst h
   exact .inr (by rw [he b hb]; exact ak _)
  ·rw [dk hm] at h
   exact .inl ⟨m, e', h, hb⟩
 ·by_cases hm : m = n
  ·subst hm
   rw [du] at h
   simp only [ab] at h
   exact hf t B h
  ·rw [dk hm] at h
   exact ht m B h
theorem Rows.alloc (hH : HR I w H) {n : Nat} (hn : H n = none) (e : Ent) : Rows I (I.put n e) := by
 have h0 := hH.dom n hn
 refine ⟨fun m sz v h => ?_⟩
 rw [dk]
 ·exact h
 ·rintro rfl; rw [h0] at h; cases h
theorem Cw {o : Oper} {n : Nat} {its : List DV} {c : Array Value} {t : TypeId} (hH : HR I w H) (hn : H n = none) (hC : CR I w its c.toList) (hr : (execOp a.eval o).run P w = .ok (.value (.pointer (some ⟨w.heap.size, 0, none⟩))) (w.alloc (.cells c t))) :
  Done P o a I w H (.ptr n 0 []) (some (n, .obj its)) := by
 have he : ∀ b, (Ent.obj w.heap.size).has b → b = w.heap.size := fun b h => h.symm
 have hf : ∀ t B, Ent.obj w.heap.size ≠ .fam t B := fun _ _ h => by cases h
 refine ⟨I.put n (.obj w.heap.size), _, _, hr, Ext.alloc hH hn he hf, Rows.alloc hH hn _, ?_, ?_⟩
 ·exact HR.alloc hH hn he hf ⟨w.heap.size, c, t, du, re w _, CR.keep (Same.alloc hH hn _ _) hC⟩
 ·have := VR.ptr (I := I.put n (.obj w.heap.size)) (w := w.alloc (.cells c t)) n 0 [] w.heap.size du trivial
  show VR _ _ _ _
  simpa [dO] using this
theorem w8 {o : Oper} {n : Nat} {E : TypeId} {s : Sh} {xs : List s.T} {c : Array Value} (hH : HR I w H) (hn : H n = none) (hk : (Sh.arr xs.length s).K I.R w xs c.toList) (hm : xs.length ≤ maxLen) (hr : (execOp a.eval o).run P w = .ok (.value (.slice (some ⟨w.heap.size, 0, none⟩) xs.length xs.length)) (w.alloc (.cells c E))) :
  Done P o a I w H (.rw n) (some (n, .row E s xs)) := by
 have he : ∀ b, (Ent.row s.sz (.slice (some ⟨w.heap.size, 0, none⟩) xs.length xs.length)).has b → b = w.heap.size := fun b h => by simpa [Ent.has, Value.ownBlock] using h.symm
 have hf : ∀ t B, Ent.row s.sz (.slice (some ⟨w.heap.size, 0, none⟩) xs.length xs.length) ≠ .fam t B := fun _ _ h => by cases h
 refine ⟨I.put n (.row s.sz (.slice (some ⟨w.heap.size, 0, none⟩) xs.length xs.length)), _, _, hr, Ext.alloc hH hn he hf, Rows.alloc hH hn _, ?_, ?_⟩
 ·refine HR.alloc hH hn he hf ⟨_, c.toList, du, ⟨hk.2.1, .inr ⟨w.heap.size, xs.length, c, rfl, ay _, re w _, ak _, hm, by simpa using hk.2.1, ?_⟩⟩, Sh.K_keep (Same.alloc hH hn _ _).keeps hk⟩
  exact aQ (ba hk.2.1)
 ·exact VR.rw n s.sz _ du ⟨_, _, _, rfl⟩
end
section
variable {P : Program} {I : In} {w : World} {T : List DV} {a : Act} {H : Heap} {α : Type}
theorem HA {v : Value} (hs : (At v).storable = true) : CR I w (At v).items v.cells.toList := ow (yq v) hs
theorem rf {t : TypeId} {its : List DV} (h : nN P t = some its) : ∃ i z, P.info? t = some i ∧ i.zero = some z ∧ CR I w its z.cells.toList := by
 unfold nN at h
 split at h
 ·rename_i i hi
  split at h
  ·rename_i v hv
   split at h
   ·rename_i hs
    exact ⟨i, v, hi, hv, vF h (HA hs)⟩
   ·cases h
  ·cases h
 ·cases h
theorem JY {o : Oper} {e : TypeId} {n : Nat} {its : List DV} (ho : o.op = .alloc e) (hH : HR I w H) (hn : H n = none) (hz : nN P e = some its) : Done P o a I w H (.ptr n 0 []) (some (n, .obj its)) := by
 obtain ⟨i, z, hi, h1, h2⟩ := rf (I := I) (w := w) hz
 refine Cw (c := z.cells) (t := e) hH hn h2 ?_
 unfold execOp
 rw [ho]
 refine jL ?_
 simp [Instr.alloc, zeroValue, typeInfo, Sem.run_bind, hi, h1, newVar, newRow]
theorem Nj {o : Oper} {e : TypeId} {x : Operand} {n : Nat} {its : List DV} (ho : o.op = .box e x) (hT : TR I w T a) (hH : HR I w H) (hn : H n = none) (hs : (dh T x).storable = true) (hz : pD (yk P 8 e) (dh T x).items = some its) : Done P o a I w H (.ptr n 0 []) (some (n, .obj its)) := by
 refine Cw (c := (a.eval x).cells) (t := e) hH hn (vF hz (ow (dP hT x) hs)) ?_
 unfold execOp
 rw [ho]
 refine jL ?_
 simp [Instr.box, Sem.run_bind, newVar, newRow]
theorem rg {R : RO} : ∀ {s : Sh} {cs r : List Value}, zeroK s cs = some r → ∃ c, cs = c ++ r ∧ s.K R w s.dflt c
 | .int k, cs, r, h => by
  simp only [zeroK] at h
  split at h
  ·split at h
   ·rename_i hk
    split at h
    ·rename_i hn
     simp only [ab] at h
     subst h hk hn
     exact ⟨[_], rfl, rfl⟩
    ·cases h
   ·cases h
  ·cases h
 | .bool, cs, r, h => by
  simp only [zeroK] at h
  split at h
  ·split at h
   ·cases h
   ·rename_i hb
    simp only [ab] at h
    subst h
    simp only [Bool.not_eq_true] at hb
    subst hb
    exact ⟨[_], rfl, rfl⟩
  ·cases h
 | .str, cs, r, h => by
  simp only [zeroK] at h
  split at h
  ·split at h
   ·rename_i hs
    simp only [ab] at h
    subst h hs
    exact ⟨[_], rfl, rfl⟩
   ·cases h
  ·cases h
 | .pair p q, cs, r, h => by
  simp only [zeroK] at h
  split at h
  ·rename_i r1 h1
   obtain ⟨c1, rfl, k1⟩ := rg (R := R) h1
   obtain ⟨c2, rfl, k2⟩ := rg (R := R) h
   exact ⟨c1 ++ c2, by simp, c1, c2, rfl, k1, k2⟩
  ·cases h
 | .sl e, cs, r, h => by
  simp only [zeroK] at h
  split at h
  ·split at h
   ·rename_i hn
    simp only [ab] at h
    subst h hn
    exact ⟨[_], rfl, none, _, rfl, ay _, fun h => absurd rfl h⟩
   ·cases h
  ·cases h
 | .fp t, cs, r, h => by
  simp only [zeroK] at h
  split at h
  ·simp only [ab] at h
   subst h
   exact ⟨[_], rfl, .inl ⟨rfl, rfl⟩⟩
  ·cases h
 | .arr n e, cs, r, h => by
  simp only [zeroK] at h
  have key : ∀ (n : Nat) (cs : List Value), zeroK.zeroN (zeroK e) n cs = some r → ∃ c, cs = c ++ r ∧ (Sh.arr n e).K R w (List.replicate n e.dflt) c := by
   intro n
   induction n with
   | zero =>
    intro cs h
    simp only [zeroK.zeroN, ab] at h
    subst h
    exact ⟨[], rfl, rfl, by simp, fun i x hx => by simp at hx⟩
   | succ n ih =>
    intro cs h
    simp only [zeroK.zeroN] at h
    split at h
    ·rename_i r1 h1
     obtain ⟨c1, rfl, k1⟩ := rg (R := R) h1
     obtain ⟨c2, rfl, m1, m2, m3⟩ := ih _ h
     have hl := Sh.K_len k1
     refine ⟨c1 ++ c2, by simp, by simp, by simp [hl, m2, aK, bT], fun i x hx => ?_⟩
     cases i with
     | zero =>
      simp only [List.replicate_succ, bu, ab] at hx
      subst hx
      simpa [bC (ba hl.symm), aQ (ba hl)] using k1
     | succ i =>
      simp only [List.replicate_succ, cF] at hx
      have := m3 i x hx
      rw [aK, bT, ← bv, b6 (ba hl.symm), cf (ba hl), bI]
      exact this
    ·cases h
  exact key n cs h
theorem Nk {R : RO} {s : Sh} {z : Array Value} (hz : s.K R w s.dflt z.toList) (hp : 0 < s.sz) (n : Nat) : (Sh.arr n s).K R w (List.replicate n s.dflt) (madeCells z (n * s.sz)).toList := by
 have hl : z.size = s.sz := by simpa using Sh.K_len hz
 refine ⟨by simp, by simp [madeCells], fun i x hx => ?_⟩
 have hi : i < n := by simpa using (List.getElem?_eq_some_iff.1 hx).1
 have hx2 : x = s.dflt := by
  simp [bK, hi] at hx
  exact hx.symm
 subst hx2
 have hle : i * s.sz + s.sz ≤ n * s.sz := by rw [← aK]; exact aS _ hi
 have : ((madeCells z (n * s.sz)).toList.drop (i * s.sz)).take s.sz = z.toList := by
  apply cq
  intro j
  rw [aP]
  split
  ·rename_i hj
   have hm : (i * s.sz + j) % z.size = j := by rw [hl, Nat.mul_comm, Nat.mul_add_mod, Nat.mod_eq_of_lt hj]
   have h2 : i * s.sz + j < n * s.sz := by omega
   have hj2 : j < z.size := by omega
   simp only [madeCells, aV, cr, Array.getElem?_map, Array.getElem?_range, h2, if_true, bF, hm]
   rw [getElem!_pos z j hj2, Array.getElem?_eq_getElem hj2]
  ·rename_i hj
   rw [ct (by simp [hl]; omega)]
 rw [this]
 exact hz
theorem Ay {R : RO} {e : TypeId} {s : Sh} (h : j9 P e s = true) : ∃ i z, P.info? e = some i ∧ i.zero = some z ∧ i.size = s.sz ∧ 0 < s.sz ∧ s.K R w s.dflt z.cells.toList := by
 unfold j9 at h
 split at h
 ·rename_i i hi
  simp only [aj, ai, av] at h
  obtain ⟨⟨h1, h2⟩, h3⟩ := h
  split at h3
  ·rename_i z hz
   split at h3
   ·rename_i r hr
    obtain ⟨c, e1, k⟩ := rg (w := w) (R := R) hr
    have : r = [] := by simpa using h3
    subst this
    rw [aG] at e1
    exact ⟨i, z, hi, hz, h1, h2, e1 ▸ k⟩
   ·cases h3
  ·cases h3
 ·cases h
theorem Cy {o : Oper} {t e : TypeId} {l c : Operand} {s : Sh} {n : Nat} {q m : Int} (ho : o.op = .makeSlice t l c) (hT : TR I w T a) (hH : HR I w H) (hn : H n = none) (hu : P.underlying t = some (.slice e)) (hl : dh T l = .sc (.int .i64 q)) (hc : dh T c = .sc (.int .i64 m))
  (h1 : (decide (0 ≤ q) && (q == m) && decide (q * (eW P e : Int) ≤ 140737488355328) && decide (1 ≤ eW P e)) = true) (hz : j9 P e s = true) : Done P o a I w H (.rw n) (some (n, .row e s (List.replicate q.toNat s.dflt))) := by
 simp only [aj, av, ai] at h1
 obtain ⟨⟨⟨h0, rfl⟩, h2⟩, h3⟩ := h1
 obtain ⟨i, z, hi, hz0, hsz, hp, hk⟩ := Ay (w := w) (R := I.R) hz
 have hb : eW P e = i.bytes := by simp [eW, hi]
 rw [hb] at h2 h3
 have hq : q ≤ 140737488355328 := by
  have : q * 1 ≤ q * (i.bytes : Int) := Int.mul_le_mul_of_nonneg_left (by omega) h0
  omega
 have hl2 := hT
 have e1 := dP hT l
 have e2 := dP hT c
 rw [hl] at e1
 rw [hc] at e2
 have e1 := e1.sc_eq
 have e2 := e2.sc_eq
 have hr := run_make (P := P) w t e i z hu hi hz0 .i64 .i64 q q h0 (bi _) (by rw [Int.mul_comm]; omega) (by omega)
 rw [hsz] at hr
 have := w8 (P := P) (a := a) (o := o) (E := e) (s := s) (xs := List.replicate q.toNat s.dflt) (c := madeCells z.cells (q.toNat * s.sz)) hH hn (by rw [ca]; exact Nk hk hp q.toNat) (by simp [maxLen]; omega) (by
  unfold execOp
  rw [ho]
  refine jL ?_
  simp only [e1, e2]
  simpa using hr)
 exact this
theorem nC : ∀ (d : List Value) (w : World) (b off : Nat) (c : Array Value) (t : TypeId), w.heap[b]? = some (.cells c t (0, 0)) → off + d.length ≤ c.size →
  ∃ c', (w.setCells b off d).heap[b]? = some (.cells c' t (0, 0)) ∧ c'.toList = dK c.toList off d ∧ (∀ g, g ≠ b → (w.setCells b off d).heap[g]? = w.heap[g]?) ∧ (w.setCells b off d).heap.size = w.heap.size ∧ (w.setCells b off d).os = w.os ∧ (w.setCells b off d).tape = w.tape ∧ (w.setCells b off d).output = w.output
 | [], w, b, off, c, t, h, hl => ⟨c, h, by simp [dK], fun _ _ => rfl, rfl, rfl, rfl, rfl⟩
 | v :: d, w, b, off, c, t, h, hl => by
  simp only [aH] at hl
  have h1 : (w.setCell ⟨b, off, none⟩ v).heap[b]? = some (.cells (c.setIfInBounds off v) t (0, 0)) := by
   simp [World.setCell, Array.getElem?_modify, h]
  obtain ⟨c', k1, k2, k3, k4, k5, k6, k7⟩ := nC d (w.setCell ⟨b, off, none⟩ v) b (off + 1) _ t h1 (by simp; omega)
  refine ⟨c', k1, ?_, fun g hg => ?_, ?_, k5, k6, k7⟩
  ·rw [k2, Array.toList_setIfInBounds]
   obtain ⟨x, y, z, e, hx⟩ : ∃ (x : List Value) (y : Value) (z : List Value), c.toList = x ++ y :: z ∧ x.length = off := by
    have hlt : off < c.toList.length := by simp; omega
    exact ⟨c.toList.take off, c.toList[off], c.toList.drop (off + 1), by rw [← cb hlt, bE], by simp; omega⟩
   rw [e, ← hx]
   have e1 : (x ++ y :: z).set x.length v = x ++ ([v] ++ z) := by simp
   have e2 : x ++ y :: z = x ++ ([y] ++ z) := by simp
   rw [e1, e2]
   have a1 := iV (c1 := x) (c2 := [v] ++ z) (d := d) (o := 1)
   have a2 := iV (c1 := x) (c2 := [y] ++ z) (d := v :: d) (o := 0)
   rw [a1]
   rw [cu] at a2
   rw [a2]
   simp [dK, List.drop_succ_cons, bT]
  ·rw [World.setCells, k3 g hg]
   simp [World.setCell, Array.getElem?_modify, Ne.symm hg]
  ·rw [World.setCells, k4]
   simp [World.setCell]
end
end Go.Proofs.Dk
