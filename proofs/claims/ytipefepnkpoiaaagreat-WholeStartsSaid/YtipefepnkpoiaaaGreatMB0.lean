/- A part of the proofs: A reader of the program's code: what a piece of code makes of values that are known but for their nu -/
import Derived.Control
import Derived.Calls
import Derived.Laws.Sem
import Derived.Orders
import Derived.Maps.AppendAt
import Derived.Deep.MidRow
import Derived.Below
import Derived.Laws.Entries
import Derived.Deep.Quiet
import Derived.Laws.StructEq
import Derived.ChangeKeysEq
import Derived.Deep.Slices
import Derived.Laws.MakeOwn
set_option linter.unusedVariables false
set_option linter.unusedSimpArgs false
noncomputable section
namespace Go.Proofs.Dk
open Go
theorem ab : type_of% @Option.some.injEq := @Option.some.injEq
theorem ae : type_of% @Option.bind_some := @Option.bind_some
theorem af : type_of% @decide_eq_true := @decide_eq_true
theorem ag : type_of% @Int.toNat_natCast := @Int.toNat_natCast
theorem ah : type_of% @Prod.mk.injEq := @Prod.mk.injEq
theorem ai : type_of% @beq_iff_eq := @beq_iff_eq
theorem aj : type_of% @Bool.and_eq_true := @Bool.and_eq_true
theorem ak : type_of% @Nat.le_refl := @Nat.le_refl
theorem am : type_of% @Nat.lt_or_ge := @Nat.lt_or_ge
theorem ao : type_of% @List.getD_eq_getElem?_getD := @List.getD_eq_getElem?_getD
theorem aq : type_of% @List.mem_singleton := @List.mem_singleton
theorem au : type_of% @Option.some.inj := @Option.some.inj
theorem av : type_of% @decide_eq_true_eq := @decide_eq_true_eq
theorem aw : type_of% @bne_iff_ne := @bne_iff_ne
theorem ax : type_of% @List.getElem?_eq_getElem := @List.getElem?_eq_getElem
theorem ay : type_of% @List.mem_cons_of_mem := @List.mem_cons_of_mem
theorem az : type_of% @List.mem_append := @List.mem_append
theorem aA : type_of% @Nat.zero_le := @Nat.zero_le
theorem aB : type_of% @List.mem_cons := @List.mem_cons
theorem aC : type_of% @if_false := @if_false
theorem aD : type_of% @List.mem_cons_self := @List.mem_cons_self
theorem aE : type_of% @Bool.or_eq_true := @Bool.or_eq_true
theorem aF : type_of% @List.length_append := @List.length_append
theorem aG : type_of% @List.append_nil := @List.append_nil
theorem aH : type_of% @List.length_cons := @List.length_cons
theorem aI : type_of% @List.append_assoc := @List.append_assoc
theorem aJ : type_of% @Eq.trans := @Eq.trans
theorem aK : type_of% @Nat.succ_mul := @Nat.succ_mul
theorem aL : type_of% @Bool.false_eq_true := @Bool.false_eq_true
theorem aM : type_of% @List.all_eq_true := @List.all_eq_true
theorem aN : type_of% @List.getElem?_append_left := @List.getElem?_append_left
theorem aO : type_of% @List.length_set := @List.length_set
theorem aP : type_of% @List.getElem?_take := @List.getElem?_take
theorem aQ : type_of% @beq_eq_false_iff_ne := @beq_eq_false_iff_ne
theorem aR : type_of% @List.take_of_length_le := @List.take_of_length_le
theorem aS : type_of% @Nat.mul_le_mul_right := @Nat.mul_le_mul_right
theorem aT : type_of% @Nat.le_trans := @Nat.le_trans
theorem aU : type_of% @Bool.true_and := @Bool.true_and
theorem aV : type_of% @List.getElem?_drop := @List.getElem?_drop
theorem aW : type_of% @List.getElem?_append_right := @List.getElem?_append_right
theorem aX : type_of% @and_true := @and_true
theorem aY : type_of% @of_decide_eq_true := @of_decide_eq_true
theorem aZ : type_of% @Nat.le_of_eq := @Nat.le_of_eq
theorem ba : type_of% @List.mem_append_left := @List.mem_append_left
theorem bb : type_of% @Nat.lt_of_lt_of_le := @Nat.lt_of_lt_of_le
theorem bc : type_of% @List.mem_map_of_mem := @List.mem_map_of_mem
theorem bf : type_of% @decide_eq_false := @decide_eq_false
theorem bg : type_of% @List.mem_range := @List.mem_range
theorem bh : type_of% @Int.le_refl := @Int.le_refl
theorem bi : type_of% @List.getElem_mem := @List.getElem_mem
theorem bj : type_of% @List.drop_length := @List.drop_length
theorem bm : type_of% @List.cons.injEq := @List.cons.injEq
theorem bn : type_of% @List.eq_nil_of_length_eq_zero := @List.eq_nil_of_length_eq_zero
theorem bo : type_of% @Bool.or_false := @Bool.or_false
theorem bp : type_of% @List.nodup_cons := @List.nodup_cons
theorem bq : type_of% @Nat.sub_self := @Nat.sub_self
theorem bs : type_of% @Nat.sub_zero := @Nat.sub_zero
theorem bu : type_of% @List.getElem?_cons_zero := @List.getElem?_cons_zero
theorem bv : type_of% @List.drop_drop := @List.drop_drop
theorem bw : type_of% @Nat.zero_add := @Nat.zero_add
theorem bx : type_of% @List.drop_zero := @List.drop_zero
theorem bz : type_of% @beq_self_eq_true := @beq_self_eq_true
theorem bA : type_of% @List.map_congr_left := @List.map_congr_left
theorem bB : type_of% @Bool.false_and := @Bool.false_and
theorem bC : type_of% @List.take_append_of_le_length := @List.take_append_of_le_length
theorem bD : type_of% @Nat.add_assoc := @Nat.add_assoc
theorem bE : type_of% @List.take_append_drop := @List.take_append_drop
theorem bF : type_of% @List.getElem?_replicate := @List.getElem?_replicate
theorem bG : type_of% @Option.map_some := @Option.map_some
theorem bH : type_of% @Nat.add_mul := @Nat.add_mul
theorem bI : type_of% @List.nil_append := @List.nil_append
theorem bJ : type_of% @List.getElem?_map := @List.getElem?_map
theorem bK : type_of% @Nat.eq_of_beq_eq_true := @Nat.eq_of_beq_eq_true
theorem bN : type_of% @List.mem_append_right := @List.mem_append_right
theorem bO : type_of% @Bool.or_eq_false_iff := @Bool.or_eq_false_iff
theorem bP : type_of% @Nat.succ_le_succ := @Nat.succ_le_succ
theorem bQ : type_of% @Bool.eq_false_or_eq_true := @Bool.eq_false_or_eq_true
theorem bR : type_of% @ByteArray.size_append := @ByteArray.size_append
theorem bS : type_of% @Nat.add_comm := @Nat.add_comm
theorem bT : type_of% @Bool.not_eq_true' := @Bool.not_eq_true'
theorem bU : type_of% @Option.getD_some := @Option.getD_some
theorem bV : type_of% @Bool.false_or := @Bool.false_or
theorem bW : type_of% @Nat.eq_zero_or_pos := @Nat.eq_zero_or_pos
theorem bX : type_of% @List.drop_append_of_le_length := @List.drop_append_of_le_length
theorem bY : type_of% @List.getElem?_set := @List.getElem?_set
theorem bZ : type_of% @List.all_cons := @List.all_cons
theorem b7 : type_of% @Array.getD_eq_getD_getElem? := @Array.getD_eq_getD_getElem?
theorem b8 : type_of% @List.length_replicate := @List.length_replicate
theorem b9 : type_of% @List.drop_eq_getElem_cons := @List.drop_eq_getElem_cons
theorem ca : type_of% @List.length_map := @List.length_map
theorem cb : type_of% @Sum.elim_inr := @Sum.elim_inr
theorem cd : type_of% @decide_eq_true_iff := @decide_eq_true_iff
theorem ce : type_of% @List.drop_of_length_le := @List.drop_of_length_le
theorem cf : type_of% @List.length_drop := @List.length_drop
theorem cg : type_of% @List.length_nil := @List.length_nil
theorem ch : type_of% @List.take_take := @List.take_take
theorem ci : type_of% @List.find?_some := @List.find?_some
theorem cj : type_of% @List.mem_of_find?_eq_some := @List.mem_of_find?_eq_some
theorem ck : type_of% @List.contains_eq_mem := @List.contains_eq_mem
theorem cm : type_of% @List.mem_filter := @List.mem_filter
theorem cn : type_of% @Int.mul_nonneg := @Int.mul_nonneg
theorem co : type_of% @List.getElem_of_mem := @List.getElem_of_mem
theorem cq : type_of% @List.ext_getElem? := @List.ext_getElem?
theorem cr : type_of% @Array.getElem?_toList := @Array.getElem?_toList
theorem ct : type_of% @List.getElem?_eq_none := @List.getElem?_eq_none
theorem cu : type_of% @Nat.add_zero := @Nat.add_zero
theorem cv : type_of% @Array.toList_map := @Array.toList_map
theorem cw : type_of% @List.length_take := @List.length_take
theorem cz : type_of% @Nat.min_eq_left := @Nat.min_eq_left
theorem cA : type_of% @Bool.not_true := @Bool.not_true
theorem cB : type_of% @List.map_append := @List.map_append
theorem cC : type_of% @Nat.add_sub_cancel := @Nat.add_sub_cancel
theorem cD : type_of% @ByteArray.size_extract := @ByteArray.size_extract
theorem cE : type_of% @Int.mul_le_mul_of_nonneg_right := @Int.mul_le_mul_of_nonneg_right
theorem cF : type_of% @List.mem_of_getElem? := @List.mem_of_getElem?
theorem cG : type_of% @List.getElem?_cons_succ := @List.getElem?_cons_succ
theorem cH : type_of% @List.flatMap_cons := @List.flatMap_cons
theorem cJ : type_of% @Array.toList_push := @Array.toList_push
theorem cN : type_of% @Int.tdiv_eq_ediv_of_nonneg := @Int.tdiv_eq_ediv_of_nonneg
inductive Sh where
 | int (k : IntKind)
 | bool
 | str
 | pair (a b : Sh)
 | sl (e : Sh)
 | arr (n : Nat) (e : Sh)
 | fp (t : TypeId)
 deriving Inhabited
@[reducible] def Sh.T : Sh → Type
 | .int _ => Int
 | .bool => Bool
 | .str => ByteArray
 | .pair a b => a.T × b.T
 | .sl e => List e.T
 | .arr _ e => List e.T
 | .fp _ => Nat
def Sh.sz : Sh → Nat
 | .pair a b => a.sz + b.sz
 | .arr n e => n * e.sz
 | _ => 1
def Sh.dflt : (s : Sh) → s.T
 | .int _ => (0 : Int)
 | .bool => false
 | .str => ByteArray.empty
 | .pair a b => (a.dflt, b.dflt)
 | .sl _ => []
 | .arr n e => List.replicate n e.dflt
 | .fp _ => (0 : Nat)
def Sh.same : (a b : Sh) → Option (PLift (a = b))
 | .int k, .int k' => if h : k = k' then some ⟨by rw [h]⟩ else none
 | .bool, .bool => some ⟨rfl⟩
 | .str, .str => some ⟨rfl⟩
 | .pair a b, .pair a' b' => match a.same a', b.same b' with | some ⟨h⟩, some ⟨h'⟩ => some ⟨by rw [h, h']⟩ | _, _ => none
 | .sl e, .sl e' => match e.same e' with | some ⟨h⟩ => some ⟨by rw [h]⟩ | _ => none
 | .fp t, .fp t' => if h : t = t' then some ⟨by rw [h]⟩ else none
 | .arr n e, .arr n' e' => if g : n = n' then match e.same e' with | some ⟨h⟩ => some ⟨by rw [g, h]⟩ | _ => none else none
 | _, _ => none
def Sh.multi : Sh → Bool
 | .pair _ _ | .arr _ _ => true
 | _ => false
inductive Ix where
 | ix (i m sz : Nat)
 | off (k : Nat)
inductive DV where
 | undef
 | sc (v : Value)
 | ptr (n : Nat) (o : Nat) (p : List Ix)
 | rp (n sz i : Nat) (p : List Ix)
 | pi (its : List DV)
 | rw (n : Nat)
 | sl (n : Nat) (o l : Nat)
 | vs (s : Sh) (xs : List s.T)
 | fn (F : Fn) (first caps : List DV)
 | arr (s : Sh) (n : Nat) (xs : List s.T)
 | agg (cs : List DV)
 | tup (vs : List DV)
 | tab (ks : List (List Int)) (vs : List DV)
 | mh (n : Nat)
 | fp (t : TypeId) (n : Nat)
 | ps (n o : Nat) (p : List Ix) (m l : Nat)
 deriving Inhabited
def DV.wd : DV → Nat
 | .arr s n _ => n * s.sz
 | _ => 1
def DV.items : DV → List DV
 | .agg cs => cs
 | .arr s n xs => [.arr s n xs]
 | v => [v]
inductive EK where
 | any
 | val (s : Sh)
 | row (E : TypeId) (s : Sh)
@[reducible] def fY : List EK → Type
 | [] => Unit
 | .any :: r => fY r
 | .val s :: r => s.T × fY r
 | .row _ s :: r => List s.T × fY r
def EK.same : (a b : List EK) → Option (PLift (a = b))
 | [], [] => some ⟨rfl⟩
 | .any :: r, .any :: r' => match EK.same r r' with | some ⟨h⟩ => some ⟨by rw [h]⟩ | none => none
 | .val s :: r, .val s' :: r' => match s.same s', EK.same r r' with | some ⟨g⟩, some ⟨h⟩ => some ⟨by rw [g, h]⟩ | _, _ => none
 | .row E s :: r, .row E' s' :: r' => if e : E = E' then match s.same s', EK.same r r' with | some ⟨g⟩, some ⟨h⟩ => some ⟨by rw [e, g, h]⟩ | _, _ => none else none
 | _, _ => none
inductive IK where
 | any
 | val (s : Sh)
 | row (E : TypeId) (s : Sh)
 | obj (i : Nat)
 | clo (F : FuncId) (caps : List Nat)
 | agf (s : Sh) (F : FuncId)
 | tab (ks : List (List Int)) (vs : List DV)
 | fam (t : TypeId) (k : List EK)
 | inn (i o : Nat)
@[reducible] def eM : List IK → Type
 | [] => Unit
 | .val s :: r => s.T × eM r
 | .row _ s :: r => List s.T × eM r
 | .agf s _ :: r => s.T × eM r
 | .fam _ k :: r => List (fY k) × eM r
 | _ :: r => eM r
def dB : EK → IK
 | .any => .any
 | .val s => .val s
 | .row E s => .row E s
def sJ : (k : List EK) → fY k → eM (k.map dB)
 | [], _ => ()
 | .any :: r, x => sJ r x
 | .val _ :: r, x => (x.1, sJ r x.2)
 | .row _ _ :: r, x => (x.1, sJ r x.2)
def Em : (k : List EK) → eM (k.map dB) → fY k
 | [], _ => ()
 | .any :: r, x => Em r x
 | .val _ :: r, x => (x.1, Em r x.2)
 | .row _ _ :: r, x => (x.1, Em r x.2)
theorem Bv : ∀ (k : List EK) (x : eM (k.map dB)), sJ k (Em k x) = x
 | [], _ => rfl
 | .any :: r, x => Bv r x
 | .val _ :: r, x => congrArg (Prod.mk x.1) (Bv r x.2)
 | .row _ _ :: r, x => congrArg (Prod.mk x.1) (Bv r x.2)
inductive Blk where
 | obj (cs : List DV)
 | row (E : TypeId) (s : Sh) (xs : List s.T)
 | mp (ks : List (List Int)) (vs : List DV)
 | fam (t : TypeId) (k : List EK) (xs : List (fY k))
abbrev Heap := Nat → Option Blk
def Heap.set (H : Heap) (n : Nat) (b : Option Blk) : Heap := fun m => if m = n then b else H m
def Sh.enc : (s : Sh) → s.T → List DV
 | .int k, n => [.sc (.int k n)]
 | .bool, b => [.sc (.bool b)]
 | .str, s => [.sc (.string s)]
 | .pair a b, x => a.enc x.1 ++ b.enc x.2
 | .sl e, xs => [.vs e xs]
 | .arr n e, xs => [.arr e n xs]
 | .fp t, n => [.fp t n]
def Sh.val (s : Sh) (x : s.T) : DV := if s.multi then .agg (s.enc x) else ((s.enc x).head?).getD .undef
def BG {α : Type} (f : List DV → Option (α × List DV)) : Nat → List DV → Option (List α × List DV)
 | 0, r => some ([], r)
 | n + 1, r => match f r with
  | some (x, r) => match BG f n r with
   | some (xs, r) => some (x :: xs, r)
   | none => none
  | none => none
def Sh.dec : (s : Sh) → List DV → Option (s.T × List DV)
 | .int k, r => match r with | .sc (.int k' n) :: r => if k' = k then some (n, r) else none | _ => none
 | .bool, r => match r with | .sc (.bool b) :: r => some (b, r) | _ => none
 | .str, r => match r with | .sc (.string s) :: r => some (s, r) | _ => none
 | .pair a b, r => match a.dec r with
  | some (x, r) => match b.dec r with
   | some (y, r) => some ((x, y), r)
   | none => none
  | none => none
 | .sl e, r => match r with
  | .vs e' xs :: r => match e'.same e with | some ⟨h⟩ => some (h ▸ xs, r) | none => none
  | .sc (.slice none n _) :: r => if n = 0 then some ([], r) else none
  | _ => none
 | .fp t, r => match r with
  | .fp t' n :: r => if t' = t then some (n, r) else none
  | .sc (.pointer none) :: r => some ((0 : Nat), r)
  | _ => none
 | .arr n e, r => match r with
  | .arr e' n' xs :: r => if n' = n then match e'.same e with | some ⟨h⟩ => some (h ▸ xs, r) | none => none else none
  | r => BG e.dec n r
def jy : Nat → List DV → Option (List DV)
 | o, [] => if o = 0 then some [] else none
 | o, d :: r => if o = 0 then some (d :: r) else if d.wd ≤ o then jy (o - d.wd) r else none
def Fx : Nat → List DV → List DV
 | _, [] => []
 | o, d :: r => if o = 0 then [] else d :: Fx (o - d.wd) r
def nu : Nat → List DV → Option (List DV)
 | n, [] => if n = 0 then some [] else none
 | n, d :: r => if n = 0 then some [] else if d.wd ≤ n then match nu (n - d.wd) r with | some l => some (d :: l) | none => none else none
def pc : List DV → List DV → Option (List DV)
 | old, [] => some old
 | [], _ :: _ => none
 | .arr s n _ :: r, x :: new => match (Sh.arr n s).dec (x :: new) with
  | some (ys, new) => match pc r new with | some l => some (.arr s n ys :: l) | none => none
  | none => none
 | _ :: r, x :: new => match x with
  | .arr _ _ _ => none
  | x => match pc r new with | some l => some (x :: l) | none => none
def pE : List DV → List Ix → Option (List DV)
 | its, [] => some its
 | its, .off k :: p => match jy k its with | some its => pE its p | none => none
 | its, .ix i m sz :: p => match its with
  | .arr s m' ys :: _ => if m' = m then if s.sz = sz then pE (s.enc (ys.getD i s.dflt)) p else none else none
  | _ => none
def nX (new : List DV) : List Ix → List DV → Option (List DV)
 | [], its => pc its new
 | .off k :: p, its => match jy k its with
  | some r => match nX new p r with | some l => some (Fx k its ++ l) | none => none
  | none => none
 | .ix i m sz :: p, its => match its with
  | .arr s m' ys :: r => if m' = m then if s.sz = sz then match nX new p (s.enc (ys.getD i s.dflt)) with
   | some its => match s.dec its with
    | some (y, []) => some (.arr s m' (ys.set i y) :: r)
    | _ => none
   | none => none else none else none
  | _ => none
def GG (f : TypeId → Option Sh) : List TypeId → Option Sh
 | [] => none
 | [t] => f t
 | t :: r => match f t, GG f r with | some a, some b => some (.pair a b) | _, _ => none
def gB (P : Program) : Nat → TypeId → Option Sh
 | 0, _ => none
 | n + 1, t => match P.underlying t with
  | some (.int k) => some (.int k)
  | some .bool => some .bool
  | some .string => some .str
  | some (.slice e) => match gB P n e with | some s => some (.sl s) | none => none
  | some (.array m e) => match gB P n e with | some s => some (.arr m s) | none => none
  | some (.pointer e) => some (.fp e)
  | some (.struct fs) => GG (gB P n) (fs.toList.map (·.type))
  | _ => none
def xI (P : Program) : Nat → TypeId → List (Option (Nat × Sh))
 | 0, _ => [none]
 | n + 1, t => match P.underlying t with
  | some (.array m e) => match gB P 8 e with | some s => [some (m, s)] | none => (List.replicate m (xI P n e)).flatten
  | some (.struct fs) => fs.toList.flatMap fun f => xI P n f.type
  | _ => [none]
def pd : List (Option (Nat × Sh)) → List DV → Option (List DV)
 | [], its => match its with | [] => some [] | _ => none
 | none :: l, its => match its with
  | .arr _ _ _ :: _ => none
  | x :: r => match pd l r with | some l => some (x :: l) | none => none
  | [] => none
 | some (m, s) :: l, its => match (Sh.arr m s).dec its with
  | some (ys, r) => match pd l r with | some l => some (.arr s m ys :: l) | none => none
  | none => none
def fJ (P : Program) (t : TypeId) : Bool := match P.underlying t with | some (.struct _) | some (.array _ _) => true | _ => false
def dI (P : Program) (t : TypeId) : Nat := match P.info? t with | some i => i.size | none => 0
def eU (P : Program) (t : TypeId) : Nat := match P.info? t with | some i => i.bytes | none => 0
def ne (P : Program) (t : TypeId) (its : List DV) : Option DV :=
 if fJ P t then some (.agg its) else if (P.underlying t).isSome then match its with | [.arr _ _ _] => none | [v] => some v | _ => none else none
def zK : Value → DV
 | .agg cs => if cs.toList.all (·.oneCell') then .agg (cs.toList.map .sc) else .undef
 | .tuple cs => if cs.toList.all (·.oneCell') then .tup (cs.toList.map .sc) else .undef
 | v => .sc v
def DV.storable : DV → Bool
 | .undef | .tup _ | .arr _ _ _ => false
 | _ => true
def nv (P : Program) (t : TypeId) : Option (List DV) := match P.info? t with
 | some i => match i.zero with | some v => if (zK v).storable then pd (xI P 8 t) (zK v).items else none | none => none
 | none => none
def zeroK : Sh → List Value → Option (List Value)
 | .int k, cs => match cs with | .int k' n :: r => if k' = k then if n = 0 then some r else none else none | _ => none
 | .bool, cs => match cs with | .bool b :: r => if b then none else some r | _ => none
 | .str, cs => match cs with | .string s :: r => if s = ByteArray.empty then some r else none | _ => none
 | .pair a b, cs => match zeroK a cs with | some r => zeroK b r | none => none
 | .sl _, cs => match cs with | .slice none n _ :: r => if n = 0 then some r else none | _ => none
 | .arr n e, cs => zeroN (zeroK e) n cs
 | .fp _, cs => match cs with | .pointer none :: r => some r | _ => none
where
 zeroN (f : List Value → Option (List Value)) : Nat → List Value → Option (List Value)
  | 0, cs => some cs
  | n + 1, cs => match f cs with | some r => zeroN f n r | none => none
def jR (P : Program) (e : TypeId) (s : Sh) : Bool := match P.info? e with
 | some i => i.size == s.sz && decide (0 < s.sz) && (match i.zero with | some v => (match zeroK s v.cells.toList with | some r => r.isEmpty | none => false) | none => false)
 | none => false
def dj (T : List DV) : Operand → DV
 | .tmp t => T.getD t .undef
 | .const v => zK v
 | .global _ => .undef
 | .func f => .fn (.func f) [] []
def dF (T : List DV) (d : Option Tmp) (v : DV) : List DV := match d with | some d => T.set d v | none => T
def fa {α : Type} (P : Program) : Sem α → Option α
 | .pure a => some a
 | .program k => fa P (k P)
 | _ => none
inductive Sub where
 | none
 | vs (s : Sh) (xs : List s.T)
def Sub.whole : Sub → DV
 | .none => .undef
 | .vs s xs => .vs s xs
def Sub.part (o l : Nat) : Sub → DV
 | .none => .undef
 | .vs s xs => .vs s ((xs.drop o).take l)
mutual
def DV.sub (n : Nat) (g : Sub) : DV → DV
 | .rp m sz i p => if m = n then .undef else .rp m sz i p
 | .rw m => if m = n then g.whole else .rw m
 | .sl m o l => if m = n then g.part o l else .sl m o l
 | .fn F a b => .fn F (eb n g a) (eb n g b)
 | .agg cs => .agg (eb n g cs)
 | .tup cs => .tup (eb n g cs)
 | .tab ks vs => .tab ks (eb n g vs)
 | v => v
def eb (n : Nat) (g : Sub) : List DV → List DV
 | [] => []
 | d :: r => d.sub n g :: eb n g r
end
def Blk.sub (n : Nat) (g : Sub) : Blk → Blk
 | .obj cs => .obj (eb n g cs)
 | .mp ks vs => .mp ks (eb n g vs)
 | b => b
def Heap.sub (n : Nat) (g : Sub) (H : Heap) : Heap := fun m => if m = n then none else match H m with | some b => some (b.sub n g) | none => none
mutual
def DV.bare : DV → DV
 | .rp _ _ _ _ => .undef
 | .rw _ => .undef
 | .sl _ _ _ => .undef
 | .fn F a b => .fn F (iy a) (iy b)
 | .agg cs => .agg (iy cs)
 | .tup cs => .tup (iy cs)
 | .tab ks vs => .tab ks (iy vs)
 | v => v
def iy : List DV → List DV
 | [] => []
 | d :: r => d.bare :: iy r
end
def xJ : DV → List Nat
 | .rw n => [n]
 | .sl n _ _ => [n]
 | _ => []
def Mx : DV → List Nat
 | .agg cs => cs.flatMap xJ
 | .tup cs => cs.flatMap xJ
 | d => xJ d
def j9 : List Nat → List DV → List DV → Heap → List DV × List DV × Heap
 | [], A, T, H => (A, T, H)
 | n :: r, A, T, H => match H n with
  | some (.row _ s xs) => j9 r (eb n (.vs s xs) A) (eb n (.vs s xs) T) (H.sub n (.vs s xs))
  | _ => j9 r A T H
def jS (A T : List DV) (H : Heap) : List DV × List DV × Heap := j9 (A.flatMap Mx) A T H
def kZ (H : Heap) : Nat → Nat → Nat
 | 0, b => b
 | k + 1, b => match H b with | none => b | some _ => kZ H k (b + 1)
def base (d : Nat) (t : Option Tmp) : Nat := 1000000 + (d * 1000 + t.getD 0) * 64
def ez (H : Heap) (s : Sh) : DV → Option (List s.T)
 | .vs s' xs => match s'.same s with | some ⟨h⟩ => some (h ▸ xs) | none => none
 | .sc (.slice none n _) => if n = 0 then some [] else none
 | .rw n => match H n with | some (.row _ s' xs) => (match s'.same s with | some ⟨h⟩ => some (h ▸ xs) | none => none) | _ => none
 | .sl n o l => match H n with | some (.row _ s' xs) => (match s'.same s with | some ⟨h⟩ => some ((h ▸ xs : List s.T).drop o |>.take l) | none => none) | _ => none
 | .ps n o p m l => match H n with | some (.obj cs) => (match pE cs (.off o :: p) with | some (.arr s' m' xs :: _) => if m' = m then (match s'.same s with | some ⟨h⟩ => some ((h ▸ xs : List s.T).take l) | none => none) else none | _ => none) | _ => none
 | _ => none
def yZ (P : Program) (t : TypeId) (H : Heap) (x : DV) : Option Nat := match P.underlying t with
 | some .string => match x with | .sc (.string s) => some s.size | _ => none
 | some (.slice _) => match x with
  | .sc (.slice none n _) => if n = 0 then some 0 else none
  | .vs _ xs => some xs.length
  | .rw n => match H n with | some (.row _ _ xs) => some xs.length | _ => none
  | .sl _ _ l => some l
  | .ps _ _ _ _ l => some l
  | _ => none
 | some (.array n _) => some n
 | _ => none
@[reducible] def nY : List (List IK) → Type
 | [] => Unit
 | k :: r => eM k × nY r
@[reducible] def RS (n : Nat) (l : List IK) : List IK := l ++ List.replicate (n - l.length) .any
structure Tmpl where
 ks : List IK
 os : List (List IK)
@[reducible] def Tmpl.Ty (t : Tmpl) : Type := eM t.ks × nY t.os
structure Nam where
 o : Nat → Nat
 r : Nat → Nat
def gZ (ρ : Nam) : Nat → (ks : List IK) → eM ks → List DV
 | _, [], _ => []
 | c, .any :: r, x => .undef :: gZ ρ (c + 1) r x
 | c, .val s :: r, x => s.val x.1 :: gZ ρ (c + 1) r x.2
 | c, .row _ _ :: r, x => .rw (ρ.r c) :: gZ ρ (c + 1) r x.2
 | c, .agf s F :: r, x => .agg (s.enc x.1 ++ [.fn (.func F) [] []]) :: gZ ρ (c + 1) r x.2
 | c, .obj i :: r, x => .ptr (ρ.o i) 0 [] :: gZ ρ (c + 1) r x
 | c, .inn i o :: r, x => .ptr (ρ.o i) o [] :: gZ ρ (c + 1) r x
 | c, .clo F is :: r, x => .fn (.func F) [] (is.map fun i => .ptr (ρ.o i) 0 []) :: gZ ρ (c + 1) r x
 | c, .tab ks vs :: r, x => .tab ks vs :: gZ ρ (c + 1) r x
 | c, .fam _ _ :: r, x => .undef :: gZ ρ (c + 1) r x.2
def hU (ρ : Nam) : Nat → (ks : List IK) → eM ks → List DV
 | _, [], _ => []
 | c, .any :: r, x => .undef :: hU ρ (c + 1) r x
 | c, .val s :: r, x => s.enc x.1 ++ hU ρ (c + 1) r x.2
 | c, .row _ _ :: r, x => .rw (ρ.r c) :: hU ρ (c + 1) r x.2
 | c, .agf s F :: r, x => (s.enc x.1 ++ [.fn (.func F) [] []]) ++ hU ρ (c + 1) r x.2
 | c, .obj i :: r, x => .ptr (ρ.o i) 0 [] :: hU ρ (c + 1) r x
 | c, .inn _ _ :: r, x => .undef :: hU ρ (c + 1) r x
 | c, .clo F is :: r, x => .fn (.func F) [] (is.map fun i => .ptr (ρ.o i) 0 []) :: hU ρ (c + 1) r x
 | c, .tab ks vs :: r, x => .tab ks vs :: hU ρ (c + 1) r x
 | c, .fam _ _ :: r, x => .undef :: hU ρ (c + 1) r x.2
def el (ρ : Nam) : Nat → (ks : List IK) → eM ks → Heap → Heap
 | _, [], _, H => H
 | c, .val _ :: r, x, H => el ρ (c + 1) r x.2 H
 | c, .agf _ _ :: r, x, H => el ρ (c + 1) r x.2 H
 | c, .row E s :: r, x, H => el ρ (c + 1) r x.2 (H.set (ρ.r c) (some (.row E s x.1)))
 | c, .any :: r, x, H => el ρ (c + 1) r x H
 | c, .obj _ :: r, x, H => el ρ (c + 1) r x H
 | c, .inn _ _ :: r, x, H => el ρ (c + 1) r x H
 | c, .clo _ _ :: r, x, H => el ρ (c + 1) r x H
 | c, .tab _ _ :: r, x, H => el ρ (c + 1) r x H
 | c, .fam _ _ :: r, x, H => el ρ (c + 1) r x.2 H
def qz (ρ : Nam) (c : Nat) : (k : List IK) → eM k → Blk
 | [.fam t k], x => .fam t k x.1
 | k, x => .obj (hU ρ c k x)
def rZ (ρ : Nam) : Nat → (os : List (List IK)) → nY os → Heap → Heap
 | _, [], _, H => H
 | i, k :: r, x, H => rZ ρ (i + 1) r x.2 (el ρ (1000 * (i + 1)) k x.1 (H.set (ρ.o i) (some (qz ρ (1000 * (i + 1)) k x.1))))
def Tmpl.T (t : Tmpl) (ρ : Nam) (x : t.Ty) : List DV := gZ ρ 0 t.ks x.1
def Tmpl.H (t : Tmpl) (ρ : Nam) (x : t.Ty) (H : Heap) : Heap := el ρ 0 t.ks x.1 (rZ ρ 0 t.os x.2 H)
structure Met where
 σ : List (Nat × Nat)
 u : List Nat
def Met.get (m : Met) (i : Nat) : Option Nat := (m.σ.find? fun e => e.1 == i).map (·.2)
def iU (H : Heap) (E : TypeId) (s : Sh) : DV → Option (List s.T × List Nat)
 | .sc (.slice none n c) => if n = 0 then if c = 0 then some ([], []) else none else none
 | .rw n => match H n with
  | some (.row E' s' xs) => if E' = E then match s'.same s with | some ⟨h⟩ => some (h ▸ xs, [n]) | none => none else none
  | _ => none
 | .sl n o l => match H n with
  | some (.row E' s' xs) => if o = 0 then if E' = E then match s'.same s with | some ⟨h⟩ => some ((h ▸ xs : List s.T).take l, [n]) | none => none else none else none
  | _ => none
 | _ => none
def pF : List Nat → List DV → Met → Option Met
 | [], l, m => if l.isEmpty then some m else none
 | i :: r, l, m => match l with
  | .ptr n 0 [] :: l => match m.get i with
   | some n' => if n = n' then pF r l m else none
   | none => pF r l ⟨(i, n) :: m.σ, m.u⟩
  | _ => none
def xK (s : Sh) (d : DV) : Option s.T := if s.multi then (match d with
  | .agg cs => match s.dec cs with | some (x, []) => some x | _ => none
  | _ => none)
 else match s.dec [d] with | some (x, []) => some x | _ => none
def dY (H : Heap) : (ks : List IK) → List DV → Met → Option (eM ks × Met)
 | [], T, m => match T with
  | [] => some ((), m)
  | _ => none
 | .any :: r, T, m => match T with
  | _ :: T => dY H r T m
  | [] => none
 | .val s :: r, T, m => match T with
  | d :: T => match xK s d with
   | some x => match dY H r T m with | some (y, m) => some ((x, y), m) | none => none
   | none => none
  | [] => none
 | .agf s F :: r, T, m => match T with
  | .agg cs :: T => match s.dec cs with
   | some (x, [.fn (.func F') [] []]) => if F' = F then match dY H r T m with | some (y, m) => some ((x, y), m) | none => none else none
   | _ => none
  | _ => none
 | .row E s :: r, T, m => match T with
  | d :: T => match iU H E s d with
   | some (xs, u) => match dY H r T ⟨m.σ, u ++ m.u⟩ with | some (y, m) => some ((xs, y), m) | none => none
   | none => none
  | [] => none
 | .obj i :: r, T, m => match T with
  | .ptr n 0 [] :: T => match m.get i with
   | some n' => if n = n' then dY H r T m else none
   | none => dY H r T ⟨(i, n) :: m.σ, m.u⟩
  | _ => none
 | .inn i o :: r, T, m => match T with
  | .ptr n o' [] :: T => if o' = o then match m.get i with
   | some n' => if n = n' then dY H r T m else none
   | none => dY H r T ⟨(i, n) :: m.σ, m.u⟩ else none
  | _ => none
 | .clo F is :: r, T, m => match T with
  | .fn (.func F') [] caps :: T => if F' = F then match pF is caps m with | some m => dY H r T m | none => none else none
  | _ => none
 | .tab _ _ :: _, _, _ => none
 | .fam _ _ :: _, _, _ => none
def fD (H : Heap) : (ks : List IK) → List DV → Met → Option (eM ks × Met)
 | [], T, m => match T with
  | [] => some ((), m)
  | _ => none
 | .any :: r, T, m => match T with
  | .arr _ _ _ :: _ => none
  | _ :: T => fD H r T m
  | [] => none
 | .val s :: r, T, m => match s.dec T with
  | some (x, T) => match fD H r T m with | some (y, m) => some ((x, y), m) | none => none
  | none => none
 | .agf s F :: r, T, m => match s.dec T with
  | some (x, .fn (.func F') [] [] :: T) => if F' = F then match fD H r T m with | some (y, m) => some ((x, y), m) | none => none else none
  | _ => none
 | .row E s :: r, T, m => match T with
  | d :: T => match iU H E s d with
   | some (xs, u) => match fD H r T ⟨m.σ, u ++ m.u⟩ with | some (y, m) => some ((xs, y), m) | none => none
   | none => none
  | [] => none
 | .obj i :: r, T, m => match T with
  | .ptr n 0 [] :: T => match m.get i with
   | some n' => if n = n' then fD H r T m else none
   | none => fD H r T ⟨(i, n) :: m.σ, m.u⟩
  | _ => none
 | .clo F is :: r, T, m => match T with
  | .fn (.func F') [] caps :: T => if F' = F then match pF is caps m with | some m => fD H r T m | none => none else none
  | _ => none
 | .tab _ _ :: _, _, _ => none
 | .fam _ _ :: _, _, _ => none
 | .inn _ _ :: _, _, _ => none
def u4 (t : TypeId) (k : List EK) : Option Blk → Option (List (fY k))
 | some (.fam t' k' xs) => if t' = t then match EK.same k' k with | some ⟨h⟩ => some (h ▸ xs) | none => none else none
 | _ => none
def sK (H : Heap) (i : Nat) : (k : List IK) → Met → Option (eM k × Met)
 | [.fam t k], m => match m.get i with
  | some n => match u4 t k (H n) with
   | some xs => some ((xs, ()), m)
   | none => none
  | none => match u4 t k (H i) with
   | some xs => some ((xs, ()), ⟨(i, i) :: m.σ, m.u⟩)
   | none => none
 | k, m => match m.get i with
  | some n => match H n with
   | some (.obj cs) => fD H k cs m
   | _ => none
  | none => none
def nZ (H : Heap) : Nat → (os : List (List IK)) → Met → Option (nY os × Met)
 | _, [], m => some ((), m)
 | i, k :: r, m => match sK H i k m with
  | some (x, m) => match nZ H (i + 1) r m with | some (y, m) => some ((x, y), m) | none => none
  | none => none
def ja : List Nat → Bool
 | [] => true
 | a :: r => !r.contains a && ja r
def kc (n : Nat) : Met := ⟨(List.range n).map fun i => (i, i), []⟩
def Tmpl.pr (t : Tmpl) (m0 : Met) (T : List DV) (H : Heap) : Option (t.Ty × Met) := match dY H t.ks T m0 with
 | some (x, m) => match nZ H 0 t.os m with
  | some (y, m) => if ja (m.u ++ m.σ.map (·.2)) && ja (m.σ.map (·.1)) && m.σ.all (fun e => decide (e.1 < t.os.length)) then some ((x, y), m) else none
  | none => none
 | none => none
def dh (ρ : Nam) : Nat → List IK → List Nat
 | _, [] => []
 | c, .row _ _ :: r => ρ.r c :: dh ρ (c + 1) r
 | c, _ :: r => dh ρ (c + 1) r
def f4 (ρ : Nam) : Nat → List (List IK) → List Nat
 | _, [] => []
 | i, k :: r => ρ.o i :: (dh ρ (1000 * (i + 1)) k ++ f4 ρ (i + 1) r)
def Tmpl.names (t : Tmpl) (ρ : Nam) : List Nat := dh ρ 0 t.ks ++ f4 ρ 0 t.os
def Tmpl.free (t : Tmpl) (ρ : Nam) (H : Heap) : Bool := ja (t.names ρ) && (t.names ρ).all fun n => (H n).isNone
inductive Ex where
 | norm
 | exit (id : Nat)
 | goto (l : Nat)
 | ret
@[reducible] def oP : List (Ex × Tmpl) → Type
 | [] => Empty
 | [e] => e.2.Ty
 | e :: r => e.2.Ty ⊕ oP r
def qA {α : Type} : (os : List (Ex × Tmpl)) → oP os → (Ex → (t : Tmpl) → t.Ty → Option α) → Option α
 | [], _, _ => none
 | [e], y, k => k e.1 e.2 y
 | e :: f :: r, y, k => match y with
  | .inl y => k e.1 e.2 y
  | .inr y => qA (f :: r) y k
structure Loop where
 tin : Tmpl
 outs : List (Ex × Tmpl)
 X : Type
 into : X → tin.Ty
 back : tin.Ty → X
 R : Type
 out : R → oP outs
 inn : oP outs → R
 fn : X → Option R
structure FS where
 tin : Tmpl
 tout : Tmpl
 R : Type
 out : R → tout.Ty
 inn : tout.Ty → R
 fn : tin.Ty → Option R
def gb : List IK → Bool
 | [] => true
 | .row _ _ :: _ | .obj _ :: _ | .clo _ (_ :: _) :: _ | .fam _ _ :: _ | .inn _ _ :: _ => false
 | _ :: r => gb r
def FS.pure (S : FS) : Bool := gb S.tin.ks && S.tin.os.isEmpty && gb S.tout.ks && S.tout.os.isEmpty
structure QR where
 tin : Tmpl
 E : TypeId
 s : Sh
 fn : tin.Ty → Option (List s.T)
structure Cx where
 P : Program
 loops : FuncId → Nat → Option Loop
 specs : FuncId → List FS
 tabs : FuncId → Option (Nat × List (List Int) × List FuncId)
 qs : FuncId → List FS
 qr : FuncId → List QR
def mH (H : Heap) (b : Nat) (m : Met) : Nam := ⟨fun i => match m.get i with | some n => n | none => kZ H 63 (b + 64 * (400000 + i)), fun c => kZ H 63 (b + 64 * c)⟩
def Heap.away (m : Met) (H : Heap) : Heap := fun n => if m.σ.any (fun e => e.2 == n) then none else H n
def dz (u : List Nat) (H : Heap) : Heap := u.foldl (fun H n => H.sub n .none) H
def dJ (u : List Nat) (T : List DV) : List DV := u.foldl (fun T n => eb n .none T) T
def gg : Code → Nat
 | .region id _ _ => id
 | .seq a b => match a with | .skip | .label _ => gg b | a => gg a
 | .block _ c | .loop c | .scope c => gg c
 | _ => 0
def nam0 : Nam := ⟨fun i => i, fun c => 100000 + c⟩
def fb (xs : List Int) : ByteArray := ⟨(xs.map fun n => UInt8.ofNat n.toNat).toArray⟩
def u6 (s : ByteArray) : List Int := s.data.toList.map fun b => (b.toNat : Int)
def bt (s : ByteArray) (i : Int) : Int := (s.data.toList.getD i.toNat 0).toNat
def Sh.eqT : (s : Sh) → s.T → s.T → Bool
 | .int _, (a : Int), b => a == b
 | .bool, (a : Bool), b => a == b
 | .str, (a : ByteArray), b => a.toList == b.toList
 | .pair x y, a, b => x.eqT a.1 b.1 && y.eqT a.2 b.2
 | .sl _, _, _ => false
 | .fp _, _, _ => false
 | .arr n e, a, b => (List.range n).all fun i => e.eqT (a.getD i e.dflt) (b.getD i e.dflt)
def wq (f : TypeId → Sh → Bool) (P : Program) : Nat → List Field → Sh → Bool
 | _, [], _ => false
 | o, [g], s => g.name != "_" && g.offset == o && f g.type s
 | o, g :: r, .pair a b => g.name != "_" && g.offset == o && f g.type a && wq f P (o + a.sz) r b
 | _, _, _ => false
def pe (P : Program) : Nat → TypeId → Sh → Bool
 | 0, _, _ => false
 | d + 1, t, s => dI P t == s.sz && decide (0 < s.sz) && match P.underlying t, s with
  | some (.int k), .int k' => k == k'
  | some .bool, .bool => true
  | some .string, .str => true
  | some (.struct fs), s => !P.stoodInHeld t && wq (pe P d) P 0 fs.toList s
  | some (.array m e), .arr n s => m == n && pe P d e s
  | _, _ => false
def Lp (P : Program) (t : TypeId) (a b : List DV) : Option Bool := match gB P 8 t with
 | some s => if fJ P t && pe P 8 t s && !P.eqGuardType P.depth t then match s.dec a, s.dec b with
  | some (x, []), some (y, []) => some (s.eqT x y)
  | _, _ => none else none
 | none => none
section
variable {α : Type} (P : Program)
def iS (e : TypeId) (sz : Nat) : Bool := match P.info? e with
 | some i => i.size == sz
 | none => false
def y0 (op : BinOp) (t : TypeId) (a b : DV) (k : DV → Option α) : Option α :=
 match a, b with
 | .sc (.int ka a), .sc (.int kb b) => match op with
  | .quo => if ka = kb then if b == 0 then none else k (.sc (.int ka (ka.wrap (a.tdiv b)))) else none
  | .rem => if ka = kb then if b == 0 then none else k (.sc (.int ka (a.tmod b))) else none
  | .shl => if decide (b < 0) then none else k (.sc (.int ka (ka.wrap (a * 2 ^ (min b.toNat ka.bits)))))
  | .shr => if decide (b < 0) then none else k (.sc (.int ka (a.fdiv (2 ^ (min b.toNat ka.bits)))))
  | op => match fa P (binOp op t (.int ka a) (.int kb b)) with | some v => k (.sc v) | none => none
 | .sc (.string a), .sc (.string b) => match op with
  | .add => if decide (a.size + b.size ≤ 140737488351232) then k (.sc (.string (a ++ b))) else none
  | op => match fa P (Op.stringOp op a b) with | some v => k (.sc v) | none => none
 | .sc (.bool a), .sc (.bool b) => match op with
  | .eql => match P.underlying t with | some .bool => k (.sc (.bool (a == b))) | _ => none
  | .neq => match P.underlying t with | some .bool => k (.sc (.bool (a != b))) | _ => none
  | _ => none
 | .agg xs, .agg ys => match op with
  | .eql => match Lp P t xs ys with | some c => k (.sc (.bool c)) | none => none
  | .neq => match Lp P t xs ys with | some c => k (.sc (.bool !c)) | none => none
  | _ => none
 | .ptr _ _ _, .sc (.pointer none) => match op with
  | .eql => match P.underlying t with | some (.pointer _) => k (.sc (.bool false)) | _ => none
  | .neq => match P.underlying t with | some (.pointer _) => k (.sc (.bool true)) | _ => none
  | _ => none
 | .rp _ _ _ _, .sc (.pointer none) => match op with
  | .eql => match P.underlying t with | some (.pointer _) => k (.sc (.bool false)) | _ => none
  | .neq => match P.underlying t with | some (.pointer _) => k (.sc (.bool true)) | _ => none
  | _ => none
 | .pi _, .sc (.pointer none) => match op with
  | .eql => match P.underlying t with | some (.pointer _) => k (.sc (.bool false)) | _ => none
  | .neq => match P.underlying t with | some (.pointer _) => k (.sc (.bool true)) | _ => none
  | _ => none
 | .fp _ n, .sc (.pointer none) => match op with
  | .eql => match P.underlying t with | some (.pointer _) => k (.sc (.bool (Nat.beq n 0))) | _ => none
  | .neq => match P.underlying t with | some (.pointer _) => k (.sc (.bool (!Nat.beq n 0))) | _ => none
  | _ => none
 | .sc (.pointer none), .sc (.pointer none) => match op with
  | .eql => match P.underlying t with | some (.pointer _) => k (.sc (.bool true)) | _ => none
  | .neq => match P.underlying t with | some (.pointer _) => k (.sc (.bool false)) | _ => none
  | _ => none
 | _, _ => none
def sL (i : Int) (n : Nat) : Bool := decide (0 ≤ i) && decide (i < (n : Int))
def sM (t : TypeId) (sz : Nat) : Bool := match P.underlying t with
 | some (.slice e) => iS P e sz
 | _ => false
def iz (t : TypeId) (H : Heap) (x : DV) (i : Int) (k : DV → Option α) : Option α := match x with
 | .vs s xs => if sM P t s.sz then if sL i xs.length then k (.pi (s.enc (xs.getD i.toNat s.dflt))) else none else none
 | .rw n => match H n with
  | some (.row _ s xs) => if sM P t s.sz then if sL i xs.length then k (.rp n s.sz i.toNat []) else none else none
  | _ => none
 | .sl n o l => match H n with
  | some (.row _ s _) => if sM P t s.sz then if sL i l then k (.rp n s.sz (o + i.toNat) []) else none else none
  | _ => none
 | .ptr n o p => match P.underlying t with
  | some (.array m e) => match H n with
   | some (.obj cs) => match jy o cs with
    | some its => match pE its p with
     | some (.arr s m' _ :: _) => if m' = m then if iS P e s.sz then if sL i m then k (.ptr n o (p ++ [.ix i.toNat m s.sz])) else none else none else none
     | some _ => match p with | [] => if iS P e (dI P e) then if sL i m then k (.ptr n (o + i.toNat * dI P e) []) else none else none | _ => none
     | none => none
    | none => none
   | _ => none
  | _ => none
 | .pi its => match P.underlying t with
  | some (.array m e) => match its with
   | .arr s m' ys :: _ => if m' = m then if iS P e s.sz then if sL i m then k (.pi (s.enc (ys.getD i.toNat s.dflt))) else none else none else none
   | _ => none
  | _ => none
 | _ => none
def pG (t : TypeId) (x : DV) (i : Int) (k : DV → Option α) : Option α := match x with
 | .sc (.string s) => match P.underlying t with | some .string => if sL i s.size then k (.sc (.int .u8 (bt s i))) else none | _ => none
 | .agg cs => match P.underlying t with
  | some (.array m e) => match cs with
   | [.arr s m' ys] => if m' = m then if dI P e = s.sz then if sL i m then match ne P e (s.enc (ys.getD i.toNat s.dflt)) with | some v => k v | none => none else none else none else none
   | cs => if sL i m then match jy (i.toNat * dI P e) cs with
    | some r => match nu (dI P e) r with
     | some its => match ne P e its with | some v => k v | none => none
     | none => none
    | none => none else none
  | _ => none
 | _ => none
def la (t : TypeId) (H : Heap) : DV → Option DV
 | .ptr n o p => match H n with
  | some (.obj cs) => match pE cs (.off o :: p) with
   | some its => match nu (dI P t) its with | some its => ne P t its | none => none
   | none => none
  | _ => none
 | .rp n sz i p => match H n with
  | some (.row _ s xs) => if s.sz = sz then match pE (s.enc (xs.getD i s.dflt)) p with
   | some its => match nu (dI P t) its with | some its => ne P t its | none => none
   | none => none else none
  | _ => none
 | .pi its => match nu (dI P t) its with | some its => ne P t its | none => none
 | _ => none
def pH : List DV → Nat
 | [] => 0
 | d :: r => d.wd + pH r
def pI (t : TypeId) (H : Heap) (a : DV) (v : DV) : Option (Nat × Blk) :=
 if v.storable = true then if iS P t (pH v.items) then match a with
 | .ptr n o p => match H n with
  | some (.obj cs) => match nX v.items (.off o :: p) cs with
   | some cs => some (n, .obj cs)
   | none => none
  | _ => none
 | .rp n sz i p => match H n with
  | some (.row E s xs) => if s.sz = sz then match nX v.items p (s.enc (xs.getD i s.dflt)) with
   | some its => match s.dec its with
    | some (y, []) => some (n, .row E s (xs.set i y))
    | _ => none
   | none => none else none
  | _ => none
 | _ => none else none else none
def u7 (t : TypeId) (f : Nat) : Option (Nat × TypeId) := match P.underlying t with
 | some (.struct fs) => match fs[f]? with | some g => if dI P g.type = 0 then none else some (g.offset, g.type) | none => none
 | _ => none
def qB (t : TypeId) (x : DV) (f : Nat) : Option DV := match u7 P t f with
 | some (o, _) => match x with
  | .ptr n o' p => match p with | [] => some (.ptr n (o' + o) []) | p => some (.ptr n o' (p ++ [.off o]))
  | .rp n sz i p => some (.rp n sz i (p ++ [.off o]))
  | .pi its => match jy o its with | some its => some (.pi its) | none => none
  | _ => none
 | none => none
def BH (t : TypeId) (x : DV) (f : Nat) : Option DV := match u7 P t f with
 | some (o, u) => match x with
  | .agg cs => match jy o cs with
   | some r => match nu (dI P u) r with | some its => ne P u its | none => none
   | none => none
  | _ => none
 | none => none
def u9 (place : Nat → Option (List Ix × Nat)) : List (Nat × DV) → List DV → Option (List DV)
 | [], cs => some cs
 | (i, v) :: r, cs => match (if v.storable then place i else none) with
  | some (p, n) => if pH v.items = n then match nX v.items p cs with | some cs => u9 place r cs | none => none else none
  | none => none
def sN (t : TypeId) (i : Nat) : Option (List Ix × Nat) := match P.underlying t with
 | some (.struct fs) => if fs.toList.all (fun f => (P.info? f.type).isSome) then match fs[i]? with | some g => some ([.off g.offset], dI P g.type) | none => none else none
 | some (.array m e) => if iS P e (dI P e) then match gB P 8 e with
  | some s => if i < m then if s.sz = dI P e then some ([.ix i m s.sz], s.sz) else none else none
  | none => some ([.off (i * dI P e)], dI P e) else none
 | _ => none
def lS (t : TypeId) : Bool := match P.underlying t with
 | some (.struct fs) => fs.toList.all fun f => (P.info? f.type).isSome
 | some (.array _ e) => iS P e (dI P e)
 | _ => false
def za (s : Sh) : List DV → Option (List s.T)
 | [] => some []
 | v :: r => match (if v.storable then s.dec v.items else none) with
  | some (y, []) => match za s r with | some l => some (y :: l) | none => none
  | _ => none
def lb (x : DV) (n : Nat) (k : Nat → Option α) : Option α := match x with
 | .sc (.int _ i) => if decide (0 ≤ i) && decide (i ≤ (n : Int)) then k i.toNat else none
 | _ => none
def sO (lo : Option DV) (k : Nat → Nat → Option α) (h : Nat) : Option α := match lo with
 | some v => lb v h fun l => k l h
 | none => k 0 h
def fC (n : Nat) (lo hi : Option DV) (k : Nat → Nat → Option α) : Option α := match hi with
 | some v => lb v n (sO lo k)
 | none => sO lo k n
def lf (t : TypeId) (H : Heap) (x : DV) (lo hi mx : Option DV) (k : DV → Option α) : Option α := match mx with
 | some _ => none
 | none => match P.underlying t, x with
  | some .string, .sc (.string s) => fC s.size lo hi fun l h => k (.sc (.string (s.extract l h)))
  | some (.slice e), .vs s xs => if iS P e s.sz then fC xs.length lo hi fun l h => k (.vs s ((xs.take h).drop l)) else none
  | some (.array m e), .ptr n o p => (match lo with
   | some _ => none
   | none => match H n with
    | some (.obj cs) => (match pE cs (.off o :: p) with
     | some (.arr s m' _ :: _) => if m' = m then if iS P e s.sz then fC m none hi fun l h => if l = 0 then k (.ps n o p m h) else none else none else none
     | _ => none)
    | _ => none)
  | some (.slice e), .rw n => match H n with
   | some (.row E s xs) => if E = e then if iS P e s.sz then fC xs.length lo hi fun l h => k (.sl n l (h - l)) else none else none
   | _ => none
  | some (.slice e), .sl n o m => match H n with
   | some (.row E s _) => if E = e then if iS P e s.sz then fC m lo hi fun l h => k (.sl n (o + l) (h - l)) else none else none
   | _ => none
  | _, _ => none
def oQ (c a b : DV) (k : DV → Option α) : Option α := match c with
 | .sc (.bool t) => match a, b with
  | .sc (.bool x), .sc (.bool y) => k (.sc (.bool (if t then x else y)))
  | .sc (.int ka x), .sc (.int kb y) => if ka = kb then k (.sc (.int ka (if t then x else y))) else none
  | a, b => if t then k a else k b
 | _ => none
def BI (k : IntKind) : Int → List DV → Option DV
 | x, [] => some (.sc (.int k x))
 | x, d :: r => match d with
  | .sc (.int k' y) => if k' = k then BI k (if y < x then y else x) r else none
  | _ => none
def BJ (k : IntKind) : Int → List DV → Option DV
 | x, [] => some (.sc (.int k x))
 | x, d :: r => match d with
  | .sc (.int k' y) => if k' = k then BJ k (if y > x then y else x) r else none
  | _ => none
abbrev fF := Option (Nat × Blk)
def Heap.act (H : Heap) : fF → Heap
 | none => H
 | some (n, b) => H.set n (some b)
def f5 (d : Nat) (o : Oper) (H : Heap) (b : Blk) (v : Nat → DV) (k : DV → fF → Option α) : Option α :=
 let n := kZ H 63 (base d o.dst)
 match H n with
 | some _ => none
 | none => k (v n) (some (n, b))
def iL (d : Nat) (o : Oper) (E : TypeId) (s : Sh) (x : DV) (ys : List s.T) (T : List DV) (H : Heap) (k : List DV → Heap → Option α) : Option α := match x with
 | .sc (.slice none z c) => if decide (z = 0) && decide (c = 0) && decide (ys.length * eU P E ≤ 140737488355328) && decide (1 ≤ eU P E) then f5 d o H (.row E s ys) .rw fun v a => k (dF T o.dst v) (H.act a) else none
 | .rw n => match H n with
  | some (.row E' s' xs) => if E' = E then match s'.same s with
   | some ⟨h⟩ => if decide (((h ▸ xs : List s.T).length + ys.length) * eU P E ≤ 140737488355328) && decide (1 ≤ eU P E) then k (dF (eb n .none T) o.dst (.rw n)) ((H.sub n .none).set n (some (.row E s ((h ▸ xs : List s.T) ++ ys)))) else none
   | none => none else none
  | _ => none
 | .sl n z l => match H n with
  | some (.row E' s' xs) => if z = 0 then if E' = E then match s'.same s with
   | some ⟨h⟩ => if decide ((((h ▸ xs : List s.T).take l).length + ys.length) * eU P E ≤ 140737488355328) && decide (1 ≤ eU P E) then k (dF (eb n .none T) o.dst (.rw n)) ((H.sub n .none).set n (some (.row E s ((h ▸ xs : List s.T).take l ++ ys)))) else none
   | none => none else none else none
  | _ => none
 | _ => none
end
def d8 : List (List Int) → List DV → Int → Option DV
 | l :: ks, d :: vs, n => if (l.any fun x => n == x) = true then some d else d8 ks vs n
 | _, _, _ => none
def lh (H : Heap) : DV → Option (List (List Int) × List DV)
 | .tab ks vs => some (ks, vs)
 | .mh n => match H n with
  | some (.mp ks vs) => some (ks, vs)
  | _ => none
 | _ => none
def ws {α : Type} : List (List Int) → List DV → DV → Int → (DV → Bool → Option α) → Option α
 | l :: ks, v :: vs, z, n, k => if (l.any fun x => n == x) = true then k v true else ws ks vs z n k
 | _, _, z, _, k => k z false
abbrev K (α : Type) := List DV → Heap → Option α
def eO {α : Type} (P : Program) (d : Nat) (o : Oper) (T : List DV) (H : Heap) (k : DV → fF → Option α) : Option α :=
 let ρ := dj T
 let v (x : DV) : Option α := k x none
 let ov (x : Option DV) : Option α := match x with | some x => k x none | none => none
 match o.op with
 | .move x | .assign x => v (ρ x)
 | .pick c a b => oQ (ρ c) (ρ a) (ρ b) v
 | .alloc e => match nv P e with | some its => f5 d o H (.obj its) (fun n => .ptr n 0 []) k | none => none
 | .box e x => match pd (xI P 8 e) (ρ x).items with
  | some its => if (ρ x).storable = true then f5 d o H (.obj its) (fun n => .ptr n 0 []) k else none
  | none => none
 | .build t ps => match (if lS P t = true then nv P t else none) with
  | some its => match u9 (sN P t) (ps.toList.map fun e => (e.1, ρ e.2)) its with
   | some its => v (.agg its)
   | none => none
  | none => none
 | .buildSlice t n ps => match P.underlying t with
  | some (.slice e) => match gB P 8 e with
   | some s => if ps.toList.map (·.1) = List.range n then if iS P e s.sz then match za s (ps.toList.map fun e => ρ e.2) with
    | some xs => if n * s.sz ≤ 4096 then if (decide (0 < s.sz) && (n == 0 || (nv P e).isSome)) = true then f5 d o H (.row e s xs) .rw k else none else none
    | none => none else none else none
   | none => none
  | _ => none
 | .load t a => ov (la P t H (ρ a))
 | .store t a x => match pI P t H (ρ a) (ρ x) with | some a => k .undef (some a) | none => none
 | .nilCheck x => match ρ x with
  | .ptr n o p => v (.ptr n o p)
  | .rp n sz i p => v (.rp n sz i p)
  | .pi its => v (.pi its)
  | .fn (.func g) a b => v (.fn (.func g) a b)
  | _ => none
 | .binOp op t x y _ => y0 P op t (ρ x) (ρ y) v
 | .unOp op _ x => match op, ρ x with
  | .not, .sc (.bool b) => v (.sc (.bool !b))
  | .neg, .sc (.int k n) => v (.sc (.int k (k.wrap (0 - n))))
  | _, _ => none
 | .convert s t x => match P.underlying s, P.underlying t, ρ x with
  | some (.int _), some (.int k), .sc (.int _ n) => v (.sc (.int k (k.wrap n)))
  | some .string, some .string, .sc (.string s) => v (.sc (.string s))
  | some (.slice e), some .string, y => match P.underlying e with
   | some (.int .u8) => (match ez H (.int .u8) y with | some xs => v (.sc (.string (fb xs))) | none => none)
   | _ => none
  | some .string, some (.slice e), .sc (.string s) => match P.underlying e with
   | some (.int .u8) => v (.vs (.int .u8) (u6 s))
   | _ => none
  | _, _, _ => none
 | .makeFunc F a b => v (.fn F (a.toList.map ρ) (b.toList.map ρ))
 | .makeSlice t l c => match P.underlying t with
  | some (.slice e) => match gB P 8 e, ρ l, ρ c with
   | some s, .sc (.int .i64 n), .sc (.int .i64 m) => if decide (0 ≤ n) && (n == m) && decide (n * (eU P e : Int) ≤ 140737488355328) && decide (1 ≤ eU P e) then if jR P e s then f5 d o H (.row e s (List.replicate n.toNat s.dflt)) .rw k else none else none
   | _, _, _ => none
  | _ => none
 | .slice t x lo hi mx => lf P t H (ρ x) (lo.map ρ) (hi.map ρ) (mx.map ρ) v
 | .fieldAddr t x f => ov (qB P t (ρ x) f)
 | .field t x f => ov (BH P t (ρ x) f)
 | .indexAddr t x i => match ρ i with | .sc (.int _ i) => iz P t H (ρ x) i v | _ => none
 | .index t x i => match ρ i with | .sc (.int _ i) => pG P t (ρ x) i v | _ => none
 | .makeMap t none => match P.underlying t with
  | some (.map _ _) => f5 d o H (.mp [] []) .mh k
  | _ => none
 | .insert t m i x => match P.underlying t, ρ m, ρ i with
  | some (.map kt _), .mh n, .sc (.int .i64 j) => match P.underlying kt, H n with
   | some (.int .i64), some (.mp ks vs) => if (d8 ks vs j).isNone = true then k .undef (some (n, .mp ([j] :: ks) (ρ x :: vs))) else none
   | _, _ => none
  | _, _, _ => none
 | .lookup t x i c => match P.underlying t, lh H (ρ x), ρ i with
  | some (.map kt e), some (ks, vs), .sc (.int .i64 n) => match P.underlying kt, P.info? e with
   | some (.int .i64), some it => match it.zero with
    | some z => ws ks vs (zK z) n fun u b => v (if c then .tup [u, .sc (.bool b)] else u)
    | none => none
   | _, _ => none
  | _, _, _ => none
 | .extract x i => match ρ x with | .tup vs => ov vs[i]? | _ => none
 | .call c => match c.callee with
  | .builtin .len => match c.args.toList, c.argTypes[0]? with
   | [x], some t => (match yZ P t H (ρ x) with | some n => v (.sc (.int .i64 n)) | none => none)
   | _, _ => none
  | .builtin .min => match c.args.toList.map ρ with | .sc (.int k x) :: r => ov (BI k x r) | _ => none
  | .builtin .max => match c.args.toList.map ρ with | .sc (.int k x) :: r => ov (BJ k x r) | _ => none
  | _ => none
 | _ => none
def My : DV → Bool
 | .rp _ _ _ _ => true
 | _ => false
def li {α : Type} (P : Program) (d : Nat) (o : Oper) (T : List DV) (H : Heap) (k : K α) : Option α :=
 match o.op with
 | .buildSlice _ _ ps => match jS (ps.toList.map fun e => dj T e.2) T H with
  | (_, T, H) => eO P d o T H fun v a => k (dF T o.dst v) (H.act a)
 | .store _ x y => if My (dj T x) = true then (match jS [dj T y] T H with
  | (_, T, H) => eO P d o T H fun v a => k (dF T o.dst v) (H.act a)) else eO P d o T H fun v a => k (dF T o.dst v) (H.act a)
 | .call c => match c.callee with
  | .builtin .append => match c.args.toList, c.argTypes.toList with
   | [x, y], [t, t'] => if t = t' then match P.underlying t with
    | some (.slice e) => match gB P 8 e with
     | some s => if jR P e s then match ez H s (dj T y) with
      | some ys => iL P d o e s (dj T x) ys T H k
      | none => none else none
     | none => none
    | _ => none else none
   | _, _ => none
  | .builtin .copy => match c.args.toList, c.argTypes.toList with
   | [x, y], [t, _] => (match P.underlying t, dj T x with
    | some (.slice e), .ps n z p m' l => (match H n with
     | some (.obj cs) => (match pE cs (.off z :: p) with
      | some (.arr s m xs :: _) => if (iS P e 1 && (Nat.beq s.sz 1 && Nat.beq m m')) = true then (match ez H s (dj T y) with
       | some ys => (match nX [.arr s m (ys.take (min ys.length l) ++ xs.drop (min ys.length l))] (.off z :: p) cs with
        | some cs => k (dF T o.dst (.sc (.int .i64 (min ys.length l : Nat)))) (H.set n (some (.obj cs)))
        | none => none)
       | none => none) else none
      | _ => none)
     | _ => none)
    | _, _ => none)
   | _, _ => none
  | _ => eO P d o T H fun v a => k (dF T o.dst v) (H.act a)
 | _ => eO P d o T H fun v a => k (dF T o.dst v) (H.act a)
section
variable {α : Type} (cx : Cx)
def fR (P : Program) (f : FuncId) : Bool := match P.funcs[f]? with
 | some fn => fn.name != "runtime.NumGoroutine" && fn.body.isSome
 | none => false
abbrev gD (α : Type) := FuncId → List DV → Heap → (DV → Heap → Option (List Nat) → Option α) → Option α
def kf (T : List DV) : Option (List Nat) → List DV
 | some u => dJ u T
 | none => iy T
def nL (g : FuncId) : Bool := false
def BK {β : Type} : List DV → (List DV → β) → β
 | [], k => k []
 | d :: r, k => BK r fun r => k (d :: r)
theorem zL {β : Type} : ∀ (T : List DV) (k : List DV → β), BK T k = k T
 | [], _ => rfl
 | d :: r, k => zL r fun r => k (d :: r)
def BL {β : Type} (d : Option Nat) (T : List DV) (k : List DV → β) : β := match d with
 | some t => if Nat.beq (t % 8) 0 = true then BK T k else k T
 | none => k T
theorem zM {β : Type} (d : Option Nat) (T : List DV) (k : List DV → β) : BL d T k = k T := by
 unfold BL
 split
 ·split
  ·exact zL _ _
  ·rfl
 ·rfl
def Cx.fl (cx : Cx) : Bool := (cx.loops 999999 0).isSome
def Lq {β : Type} (fl b : Bool) (x y : β) : β := Bool.rec (motive := fun _ => β) (if b = true then x else y) (Bool.rec (motive := fun _ => β) y x b) fl
theorem GH {β : Type} (fl b : Bool) (x y : β) : Lq fl b x y = if b = true then x else y := by cases fl <;> cases b <;> rfl
def eZ (call : gD α) (d : Nat) (ops : Array Oper) : List Oper → List DV → Heap → K α → Option α
 | [], T, H, k => k T H
 | o :: r, T, H, k => BL o.dst T fun T =>
  let run (T : List DV) : Option α := match o.op with
   | .call c => match c.callee with
    | .value f => match dj T f with
     | .fn (.func g) a b => match (if nL g = true then (a ++ c.args.toList.map (dj T) ++ b, T, H) else jS (a ++ c.args.toList.map (dj T) ++ b) T H) with
      | (A, T, H) => call g A H fun v H u => eZ call d ops r (dF (kf T u) o.dst v) H k
     | _ => none
    | _ => li cx.P d o T H fun T H => eZ call d ops r T H k
   | _ => li cx.P d o T H fun T H => eZ call d ops r T H k
  match o.guard with
  | none => run T
  | some (j, want) => match (ops[j]?).bind (·.dst) with
   | some g => match T.getD g .undef with
    | .sc (.bool b) =>
     Lq cx.fl b (Lq cx.fl want (run (T.set g (.sc (.bool true)))) (eZ call d ops r (dF (T.set g (.sc (.bool true))) o.dst (.tup [])) H k))
      (Lq cx.fl want (eZ call d ops r (dF (T.set g (.sc (.bool false))) o.dst (.tup [])) H k) (run (T.set g (.sc (.bool false)))))
    | .tup [] => eZ call d ops r (dF T o.dst (.tup [])) H k
    | _ => none
   | none => none
def gE : DV → List Nat
 | .ptr n _ _ => [n]
 | .rp n _ _ _ => [n]
 | .rw n => [n]
 | .sl n _ _ => [n]
 | .mh n => [n]
 | .ps n _ _ _ _ => [n]
 | _ => []
def sP (o : Oper) : Bool := match o.op with
 | .move _ | .assign _ | .extract _ _ | .nilCheck _ | .fieldAddr _ _ _ | .field _ _ _ | .binOp _ _ _ _ _ | .unOp _ _ _ | .pick _ _ _ | .makeFunc _ _ _ => false
 | _ => true
def fc (T : List DV) (o : Oper) : List Nat := if sP o = true then o.op.operands.toList.flatMap fun x => gE (dj T x) else []
def zb (o : Oper) : Bool := match o.op with
 | .alloc _ | .box _ _ | .buildSlice _ _ _ | .makeSlice _ _ _ | .makeMap _ _ => true
 | _ => false
mutual
def DV.rows : DV → List Nat
 | .rp n _ _ _ => [n]
 | .rw n => [n]
 | .sl n _ _ => [n]
 | .fn _ a b => mn a ++ mn b
 | .agg cs => mn cs
 | .tup cs => mn cs
 | .tab _ vs => mn vs
 | _ => []
def mn : List DV → List Nat
 | [] => []
 | d :: r => d.rows ++ mn r
end
def mo : Option Blk → List Nat
 | some (.obj cs) => mn cs
 | some (.mp _ vs) => mn vs
 | _ => []
def fh (u h : List Nat) : Bool := u.all fun n => !h.contains n
structure Act2 where
 u : List Nat
 W : List Nat
 B : Heap
def Act2.of : fF → Act2
 | none => ⟨[], [], fun _ => none⟩
 | some (n, b) => ⟨[], [n], fun _ => some b⟩
def Heap.act2 (H : Heap) (a : Act2) : Heap := fun n => if a.W.contains n = true then a.B n else (dz a.u H) n
structure Did where
 o : Oper
 r : List Nat
 w : List Nat
 u : List Nat
 h : List Nat
 T : List DV
 H : Heap
def Bw (ops : Array Oper) (T : List DV) (H : Heap) (o : Oper) (v : DV) (r : List Nat) (a : Act2) : List Nat := v.rows ++ ((o.looksAt ops).flatMap (fun t => (T.getD t .undef).rows) ++ (r.flatMap (fun n => mo (H n)) ++ a.W.flatMap (fun n => mo (a.B n))))
def iA (ops : Array Oper) (T : List DV) (H : Heap) (o : Oper) (v : DV) (r : List Nat) (a : Act2) : Did := ⟨o, r, a.W, a.u, Bw ops T H o v r a, T, H⟩
def gm (d : Nat) (o : Oper) (n : Nat) : Bool := zb o && decide (base d o.dst ≤ n) && decide (n < base d o.dst + 64)
def lT (u : List Nat) (H : Heap) (d : Nat) (o : Oper) : Bool := !zb o || (List.range 64).all fun i => fh u (mo (H (base d o.dst + i)))
def Fy (d : Nat) (ops : Array Oper) (x y : Did) : Bool := (x.u.isEmpty || (fh x.u y.h && (lT x.u x.H d y.o && ((y.r.all fun n => fh x.u (mo (x.H n))) && (y.o.looksAt ops).all fun t => fh x.u (x.T.getD t .undef).rows)))) && (y.u.isEmpty || (fh y.u x.h && lT y.u x.H d x.o))
def Fz (d : Nat) (ops : Array Oper) (x y : Did) : Bool :=
 (x.w.all fun n => !y.r.contains n && (!y.w.contains n && !gm d y.o n)) &&
 ((y.w.all fun n => !x.r.contains n && !gm d x.o n) && Fy d ops x y)
def iE (d : Nat) (ops : Array Oper) (x y : Did) : Bool := Fz d ops x y && x.o.apart ops y.o
def vK (x : Did) : Bool := x.w.isEmpty && x.u.isEmpty
def jc (anc : List Nat) (j i : Nat) : Bool := Nat.beq (anc.getD j 0 / 2 ^ i % 2) 1
def va (acc : List Nat) : List Edge → Nat → Nat
 | [], m => m
 | e :: r, m => va acc r (m ||| (2 ^ e.on ||| acc.getD e.on 0))
def sQ : Nat → List Oper → List Nat → Option (List Nat)
 | _, [], acc => some acc
 | i, o :: r, acc => if (o.after.toList.filter (Region.binds .any)).all (fun e => decide (e.on < i)) then sQ (i + 1) r (acc ++ [va acc (o.after.toList.filter (Region.binds .any)) 0]) else none
def n4 (ops : Array Oper) (anc : List Nat) : Bool := (List.range ops.size).all fun j => (List.range j).all fun i => jc anc j i || match ops[i]?, ops[j]? with | some x, some y => x.apart ops y | _, _ => true
def gP : List DV → DV
 | [v] => v
 | l => .tup l
def nw : List FS → List DV → (DV → Option α) → Option (Option α)
 | [], _, _ => none
 | S :: r, A, k => if S.pure then match S.tin.pr ⟨[], []⟩ A (fun _ => none) with
  | some (x, _) => some ((S.fn x).bind fun y => k (gP (S.tout.T nam0 (S.out y))))
  | none => nw r A k else nw r A k
def xL : DV → Bool
 | .ptr _ _ _ => true
 | _ => false
def n5 (g : FuncId) (A : List DV) : Option DV := if fR cx.P g = true then match cx.tabs g with
 | some (n, ks, Fs) => if A.length = n then if A.all xL = true then some (.tab ks (Fs.map fun F => .fn (.func F) A [])) else none else none
 | none => none else none
def xM (anc : List Nat) (n j : Nat) : Bool := ((List.range j).all fun i => jc anc j i) && (List.range n).all fun i => decide (i ≤ j) || jc anc i j
def kn (b : Nat) (m : Met) : Nam := ⟨fun i => match m.get i with | some n => n | none => b + 64 * (400000 + i), fun c => b + 64 * c⟩
def oR : List FS → List DV → Heap → Nat → (DV → Act2 → Option α) → Option (Option α)
 | [], _, _, _, _ => none
 | S :: r, A, H, b, k => match S.tin.pr ⟨[], []⟩ A H with
  | some (x, m) => some ((S.fn x).bind fun y =>
   if S.tout.free (kn b m) ((dz m.u H).away m) = true then k (gP (S.tout.T (kn b m) (S.out y))) ⟨m.u, m.σ.map (·.2) ++ m.u ++ S.tout.names (kn b m), S.tout.H (kn b m) (S.out y) fun _ => none⟩ else none)
  | none => oR r A H b k
def BM (d : Nat) (o : Oper) : Nat := 10000000000000000 + (d * 1000 + o.dst.getD 0) * 1000000000
def d9 (P : Program) (d : Nat) (o : Oper) (E : TypeId) (s : Sh) (x : DV) (ys : List s.T) (H : Heap) (k : DV → Act2 → Option α) : Option α := match x with
 | .sc (.slice none z c) => if decide (z = 0) && decide (c = 0) && decide (ys.length * eU P E ≤ 140737488355328) && decide (1 ≤ eU P E) then (match H (base d o.dst) with
  | none => k (.rw (base d o.dst)) ⟨[], [base d o.dst], fun _ => some (.row E s ys)⟩
  | some _ => none) else none
 | .rw n => match H n with
  | some (.row E' s' xs) => if E' = E then match s'.same s with
   | some ⟨h⟩ => if decide (((h ▸ xs : List s.T).length + ys.length) * eU P E ≤ 140737488355328) && decide (1 ≤ eU P E) then k (.rw n) ⟨[n], [n], fun _ => some (.row E s ((h ▸ xs : List s.T) ++ ys))⟩ else none
   | none => none else none
  | _ => none
 | .sl n z l => match H n with
  | some (.row E' s' xs) => if z = 0 then if E' = E then match s'.same s with
   | some ⟨h⟩ => if decide ((((h ▸ xs : List s.T).take l).length + ys.length) * eU P E ≤ 140737488355328) && decide (1 ≤ eU P E) then k (.rw n) ⟨[n], [n], fun _ => some (.row E s ((h ▸ xs : List s.T).take l ++ ys))⟩ else none
   | none => none else none else none
  | _ => none
 | _ => none
def vb (P : Program) (d : Nat) (o : Oper) (c : Call) (T : List DV) (H : Heap) (k : DV → Act2 → Option α) : Option α := match c.args.toList, c.argTypes.toList with
 | [x, y], [t, t'] => if t = t' then match P.underlying t with
  | some (.slice e) => match gB P 8 e with
   | some s => if jR P e s = true then match ez H s (dj T y) with
    | some ys => d9 P d o e s (dj T x) ys H k
    | none => none else none
   | none => none
  | _ => none else none
 | _, _ => none
def mI : List FS → List DV → Heap → (DV → List Nat → Option α) → Option (Option α)
 | [], _, _, _ => none
 | S :: r, A, H, k => match S.tin.pr ⟨[], []⟩ A H with
  | some (x, m) => some ((S.fn x).bind fun y => k (gP (S.tout.T nam0 (S.out y))) (m.σ.map (·.2) ++ m.u))
  | none => mI r A H k
def mJ : List QR → List DV → Heap → (Blk → List Nat → Option α) → Option (Option α)
 | [], _, _, _ => none
 | S :: r, A, H, k => match S.tin.pr ⟨[], []⟩ A H with
  | some (x, m) => some ((S.fn x).bind fun xs => k (.row S.E S.s xs) (m.σ.map (·.2) ++ m.u))
  | none => mJ r A H k
def zc (call : gD α) (d N : Nat) (anc : List Nat) (o : Oper) (j : Nat) (T : List DV) (H : Heap) (next : DV → fF → Option α) (soft : List Nat → DV → Act2 → Option α) (on : K α) : Option α := match o.op with
 | .call c => match c.callee with
  | .value f => match dj T f with
   | .fn (.func g) a b => match n5 cx g (a ++ c.args.toList.map (dj T) ++ b) with
    | some v => next v none
    | none => match (if fR cx.P g = true then nw (cx.specs g) (a ++ c.args.toList.map (dj T) ++ b) (fun v => next v none) else none) with
     | some r => r
     | none => match (if fR cx.P g = true then mI (cx.qs g) (a ++ c.args.toList.map (dj T) ++ b) H (fun v rd => soft rd v ⟨[], [], fun _ => none⟩) else none) with
     | some r => r
     | none => match (if fR cx.P g = true then mJ (cx.qr g) (a ++ c.args.toList.map (dj T) ++ b) H (fun bk rd => match H (base d o.dst) with
      | none => soft (rd ++ [base d o.dst]) (.rw (base d o.dst)) ⟨[], [base d o.dst], fun _ => some bk⟩
      | some _ => none) else none) with
     | some r => r
     | none => if xM anc N j then match (if nL g = true then (a ++ c.args.toList.map (dj T) ++ b, T, H) else jS (a ++ c.args.toList.map (dj T) ++ b) T H) with
      | (A, T, H) => call g A H fun v H u => on (dF (kf T u) o.dst v) H
      else match (if fR cx.P g = true then oR (cx.specs g) (a ++ c.args.toList.map (dj T) ++ b) H (BM d o) (fun v a => soft a.W v a) else none) with
       | some r => r
       | none => none
   | _ => none
  | .builtin .append => if xM anc N j then li cx.P d o T H on else vb cx.P d o c T H fun v a => soft (fc T o ++ a.W) v a
  | _ => eO cx.P d o T H next
 | .store _ x _ => if (My (dj T x) && xM anc N j) = true then li cx.P d o T H on else eO cx.P d o T H next
 | _ => eO cx.P d o T H next
def sa (ops : Array Oper) (anc : List Nat) (d j : Nat) (q : Bool) (log : List (Nat × Did)) (x : Did) : Bool := (q && vK x) || log.all fun e => (vK e.2 && vK x) || (jc anc j e.1 || Fz d ops e.2 x)
def dL (call : gD α) (d : Nat) (ops : Array Oper) (anc : List Nat) : List Oper → Nat → Bool → List (Nat × Did) → List DV → Heap → K α → Option α
 | [], _, _, _, T, H, k => k T H
 | o :: r, j, q, log, T, H, k =>
  let next (T : List DV) (v : DV) (a : fF) : Option α :=
   if sa ops anc d j q log (iA ops T H o v (fc T o) (Act2.of a)) = true then dL call d ops anc r (j + 1) (q && a.isNone) ((j, iA ops T H o v (fc T o) (Act2.of a)) :: log) (dF T o.dst v) (H.act a) k else none
  let soft (T : List DV) (rd : List Nat) (v : DV) (a : Act2) : Option α :=
   if sa ops anc d j q log (iA ops T H o v rd a) = true then dL call d ops anc r (j + 1) false ((j, iA ops T H o v rd a) :: log) (dF (dJ a.u T) o.dst v) (H.act2 a) k else none
  let run (T : List DV) : Option α := zc cx call d ops.size anc o j T H (next T) (soft T) (fun T H => dL call d ops anc r (j + 1) true [] T H k)
  match o.guard with
  | none => run T
  | some (j, want) => match (ops[j]?).bind (·.dst) with
   | some g => match T.getD g .undef with
    | .sc (.bool b) =>
     if b then (if want then run (T.set g (.sc (.bool true))) else next (T.set g (.sc (.bool true))) (.tup []) none)
     else (if want then next (T.set g (.sc (.bool false))) (.tup []) none else run (T.set g (.sc (.bool false))))
    | .tup [] => next T (.tup []) none
    | _ => none
   | none => none
def lj (body : List DV → Heap → (Ex → List DV → Heap → Option α) → Option α) : Nat → List DV → Heap → (Ex → List DV → Heap → Option α) → Option α
 | 0, _, _, _ => none
 | n + 1, T, H, k => body T H fun e T H => match e with
  | .norm => lj body n T H k
  | e => k e T H
def vc : List IK → List DV → List Nat
 | .val (.sl _) :: ks, d :: T => xJ d ++ vc ks T
 | _ :: ks, _ :: T => vc ks T
 | _, _ => []
def sR (L : Loop) (b : Nat) (T : List DV) (H : Heap) (k : Ex → List DV → Heap → Option α) : Option α := match L.tin.pr ⟨[], []⟩ T H with
 | some (x, m) => (L.fn (L.back x)).bind fun y => qA L.outs (L.out y) fun e t y =>
  let H' := dz m.u H
  let ρ := mH H' b m
  if t.free ρ (H'.away m) = true then k e (t.T ρ y) (t.H ρ y (H'.away m)) else none
 | none => none
def oS (L : Loop) (b : Nat) (T : List DV) (H : Heap) (k : Ex → List DV → Heap → Option α) : Option α := match j9 (vc L.tin.ks T) [] T H with
 | (_, T, H) => sR L b T H k
def LG (L : Loop) (T : List DV) (H : Heap) : Bool := match j9 (vc L.tin.ks T) [] T H with
 | (_, T, H) => (L.tin.pr ⟨[], []⟩ T H).isSome
def PM (b : Code) : Nat := 1000000 + gg b
def GI (f : FuncId) (b : Code) (T : List DV) (H : Heap) : Option Loop := match cx.loops f (PM b) with
 | some L => if (L.tin.pr ⟨[], []⟩ T H).isSome = true then some L else none
 | none => none
def Je (b : List DV → Heap → (Ex → List DV → Heap → Option α) → Option α) (k : Ex → List DV → Heap → Option α) (e : Ex) (T : List DV) (H : Heap) : Option α := match e with
 | .norm => b T H k
 | e => k e T H
def Jf (c : Operand) (t : Bool) (T : List DV) : List DV := match c with | .tmp i => T.set i (.sc (.bool t)) | _ => T
def dU (call : gD α) (f d : Nat) : Code → List DV → Heap → (Ex → List DV → Heap → Option α) → Option α
 | .skip, T, H, k => k .norm T H
 | .label _, T, H, k => k .norm T H
 | .region _ ops draw, T, H, k => if draw then match sQ 0 ops.toList [] with
   | some anc => if (cx.P.follows .mixedOrders && n4 ops anc) = true then dL cx call d ops anc ops.toList 0 true [] T H fun T H => k .norm T H else none
   | none => none
  else eZ cx call d ops ops.toList T H fun T H => k .norm T H
 | .seq a b, T, H, k => match GI cx f b T H with
  | some L => oS L (2000000000 + (d * 1000 + 500 + gg b) * 100000000) T H fun e T H => Je (dU call f d b) k e T H
  | none => dU call f d a T H fun e T H => Je (dU call f d b) k e T H
 | .cond c a b, T, H, k => match dj T c with
  | .sc (.bool t) => if t then dU call f d a (Jf c true T) H k else dU call f d b (Jf c false T) H k
  | _ => none
 | .block id c, T, H, k => dU call f d c T H fun e T H => match e with
  | .exit j => if j = id then k .norm T H else k (.exit j) T H
  | e => k e T H
 | .loop c, T, H, k => match cx.loops f (gg c) with
  | some L => if LG L T H = true then oS L (2000000000 + (d * 1000 + gg c) * 100000000) T H k else lj (dU call f d c) 64 T H k
  | none => lj (dU call f d c) 64 T H k
 | .scope c, T, H, k => dU call f d c T H fun e T H => match e with
  | .goto _ => none
  | e => k e T H
 | .exit id, T, H, k => k (.exit id) T H
 | .goto l, T, H, k => k (.goto l) T H
 | .ret, T, H, k => k .ret T H
 | .refuse _, _, _, _ => none
 | .rangeFunc _ _ _ _, _, _, _ => none
def pf (P : Program) (T : List DV) (H : Heap) : List ResultVar → Option (List DV)
 | [] => some []
 | .tmp t :: r => match pf P T H r with | some l => some (T.getD t .undef :: l) | none => none
 | .cell a t :: r => match la P t H (T.getD a .undef), pf P T H r with | some v, some l => some (v :: l) | _, _ => none
def oT : List FS → (T : List DV) → Heap → Nat → (DV → Heap → Option (List Nat) → Option α) → Option (Option α)
 | [], _, _, _, _ => none
 | S :: r, A, H, b, k => match S.tin.pr ⟨[], []⟩ A H with
  | some (x, m) => some ((S.fn x).bind fun y =>
   let H' := dz m.u H
   let ρ := mH H' b m
   if S.tout.free ρ (H'.away m) = true then k (gP (S.tout.T ρ (S.out y))) (S.tout.H ρ (S.out y) (H'.away m)) (some m.u) else none)
  | none => oT r A H b k
def iV (call : gD α) (f d : Nat) (A : List DV) (H : Heap) (k : DV → Heap → Option α) : Option α := match cx.P.funcs[f]? with
 | some fn => match fn.body with
  | some c => dU cx call f d c (A ++ List.replicate (fn.ntmps - A.length) .undef) H fun e T H => match e with
   | .norm => (match pf cx.P T H fn.results.toList with | some vs => k (gP vs) H | none => none)
   | .ret => (match pf cx.P T H fn.results.toList with | some vs => k (gP vs) H | none => none)
   | _ => none
  | none => none
 | none => none
def fd : Nat → Nat → gD α
 | 0, _, _, _, _, _ => none
 | n + 1, d, f, A, H, k => if fR cx.P f = true then match n5 cx f A with
  | some v => k v H (some [])
  | none => match oT (cx.specs f) A H (3000000000 + d * 100000000000) k with
   | some r => r
   | none => if ((cx.specs f).isEmpty || (cx.specs f).any fun S => !S.pure) = true then iV cx (fd n (d + 1)) f d A H fun v H => k v H none else none
  else none
end
end Go.Proofs.Dk
namespace Go.Proofs.Dk
open Go Go.RowKit
structure RO where
 r : Nat → Prop
 fam : TypeId → List Nat
instance : CoeFun RO (fun _ => Nat → Prop) := ⟨RO.r⟩
def Sh.K (R : RO) (w : World) : (s : Sh) → s.T → List Value → Prop
 | .int k, n, cs => cs = [.int k n]
 | .bool, b, cs => cs = [.bool b]
 | .str, s, cs => cs = [.string s]
 | .pair a b, x, cs => ∃ c1 c2, cs = c1 ++ c2 ∧ a.K R w x.1 c1 ∧ b.K R w x.2 c2
 | .sl e, xs, cs => ∃ A cap, cs = [.slice A xs.length cap] ∧ xs.length ≤ cap ∧ (xs ≠ [] → ∃ a, A = some a ∧ a.spot = none ∧ R a.block ∧ ∀ i x, xs[i]? = some x → ∃ c, c.length = e.sz ∧ e.K R w x c ∧ ∀ j u, c[j]? = some u → w.cell? (a.add (i * e.sz + j)) = some u)
 | .fp t, n, cs => (n = 0 ∧ cs = [.pointer none]) ∨ ∃ m b, n = m + 1 ∧ (R.fam t)[m]? = some b ∧ cs = [.pointer (some ⟨b, 0, none⟩)]
 | .arr n e, xs, cs => xs.length = n ∧ cs.length = n * e.sz ∧ ∀ i x, xs[i]? = some x → e.K R w x ((cs.drop (i * e.sz)).take e.sz)
theorem Sh.K_len {R : RO} {w : World} : ∀ {s : Sh} {x : s.T} {cs : List Value}, s.K R w x cs → cs.length = s.sz
 | .int _, _, _, h => by cases h; rfl
 | .bool, _, _, h => by cases h; rfl
 | .str, _, _, h => by cases h; rfl
 | .pair a b, x, _, ⟨c1, c2, e, h1, h2⟩ => by rw [e, aF, K_len h1, K_len h2]; rfl
 | .sl _, _, _, ⟨A, cap, e, _⟩ => by rw [e]; rfl
 | .fp t, n, cs, h => by rcases h with ⟨_, rfl⟩ | ⟨m, b, _, _, rfl⟩ <;> rfl
 | .arr n e, _, _, ⟨_, h, _⟩ => h
structure Keeps (R R' : RO) (w w' : World) : Prop where
 sub : ∀ b, R b → R' b
 same : ∀ b, R b → w'.heap[b]? = w.heap[b]?
 fam : ∀ (t : TypeId) (i b : Nat), (R.fam t)[i]? = some b → (R'.fam t)[i]? = some b
theorem Keeps.refl (R : RO) (w : World) : Keeps R R w w := ⟨fun _ h => h, fun _ _ => rfl, fun _ _ _ h => h⟩
theorem Keeps.trans {R R1 R2 : RO} {w w1 w2 : World} (h : Keeps R R1 w w1) (k : Keeps R1 R2 w1 w2) : Keeps R R2 w w2 := ⟨fun b hb => k.sub b (h.sub b hb), fun b hb => (k.same b (h.sub b hb)).trans (h.same b hb), fun t i b hb => k.fam t i b (h.fam t i b hb)⟩
theorem kB {w w' : World} {a : Addr} (h : w'.heap[a.block]? = w.heap[a.block]?) : w'.cell? a = w.cell? a := World.cell?_of_block h
theorem gh (a : Addr) (n : Nat) : (a.add n).block = a.block := by unfold Addr.add; split <;> rfl
theorem Sh.K_keep {R R' : RO} {w w' : World} (hk : Keeps R R' w w') : ∀ {s : Sh} {x : s.T} {cs : List Value}, s.K R w x cs → s.K R' w' x cs
 | .int _, _, _, h => h
 | .bool, _, _, h => h
 | .str, _, _, h => h
 | .pair a b, x, _, ⟨c1, c2, e, h1, h2⟩ => ⟨c1, c2, e, K_keep hk h1, K_keep hk h2⟩
 | .sl e, xs, _, ⟨A, cap, h1, h2, h3⟩ => ⟨A, cap, h1, h2, fun hn => by
   obtain ⟨a, e1, e2, e3, e4⟩ := h3 hn
   refine ⟨a, e1, e2, hk.sub _ e3, fun i x hx => ?_⟩
   obtain ⟨c, g1, g2, g3⟩ := e4 i x hx
   exact ⟨c, g1, K_keep hk g2, fun j u hu => (kB (by rw [gh]; exact hk.same _ e3)).trans (g3 j u hu)⟩⟩
 | .fp t, n, _, h => h.imp id fun ⟨m, b, h1, h2, h3⟩ => ⟨m, b, h1, hk.fam t m b h2, h3⟩
 | .arr n e, xs, _, ⟨h1, h2, h3⟩ => ⟨h1, h2, fun i x hx => K_keep hk (h3 i x hx)⟩
inductive Ent where
 | obj (b : Nat)
 | row (sz : Nat) (v : Value)
 | fam (t : TypeId) (B : Nat → Nat → Prop)
def Ent.has : Ent → Nat → Prop
 | .obj b, c => b = c
 | .row _ v, c => v.ownBlock = some c
 | .fam _ B, c => ∃ i, B i c
structure In where
 ι : Nat → Option Ent
 R : RO
def dN : List Ix → Nat
 | [] => 0
 | .ix i _ sz :: p => i * sz + dN p
 | .off k :: p => k + dN p
def lJ : List Ix → Prop
 | [] => True
 | .ix i m _ :: p => i < m ∧ lJ p
 | .off _ :: p => lJ p
def _root_.Go.Proofs.Dk.DV.imm : DV → Bool
 | .sc _ | .vs _ _ | .arr _ _ _ | .fp _ _ => true
 | _ => false
structure TabE (ks : List (List Int)) (vs : List DV) (val : Int → Value) (es : List MapEntry) : Prop where
 keys : ∀ e ∈ es, ∃ n, e.key = .int .i64 n
 here : ∀ e ∈ es, ∀ n, e.key = .int .i64 n → val n = e.val ∧ (d8 ks vs n).isSome = true
 all : ∀ n, (d8 ks vs n).isSome = true → ∃ e ∈ es, e.key = .int .i64 n
theorem TabE.map {ks : List (List Int)} {vs vs' : List DV} {val : Int → Value} {es : List MapEntry} {f : DV → DV} (h : TabE ks vs val es) (hv : ∀ n, d8 ks vs' n = (d8 ks vs n).map f) : TabE ks vs' val es :=
 ⟨h.keys, fun e he n hn => ⟨(h.here e he n hn).1, by rw [hv, Option.isSome_map]; exact (h.here e he n hn).2⟩, fun n hn => h.all n (by rw [hv, Option.isSome_map] at hn; exact hn)⟩
mutual
inductive VR (I : In) (w : World) : DV → Value → Prop where
 | undef (v : Value) : VR I w .undef v
 | sc (v : Value) (h : v.oneCell' = true) : VR I w (.sc v) v
 | ptr (n o : Nat) (p : List Ix) (b : Nat) (h : I.ι n = some (.obj b)) (hp : lJ p) : VR I w (.ptr n o p) (.pointer (some ⟨b, o + dN p, none⟩))
 | rp (n sz i : Nat) (p : List Ix) (b len cap : Nat) (h : I.ι n = some (.row sz (.slice (some ⟨b, 0, none⟩) len cap))) (hi : i < len) (hp : lJ p) : VR I w (.rp n sz i p) (.pointer (some ⟨b, i * sz + dN p, none⟩))
 | pi (its : List DV) (a : Addr) (cs : List Value) (hs : a.spot = none) (hR : I.R a.block) (him : ∀ d ∈ its, d.imm = true) (h : CR I w its cs) (hc : ∀ j u, cs[j]? = some u → w.cell? (a.add j) = some u) : VR I w (.pi its) (.pointer (some a))
 | rw (n sz : Nat) (v : Value) (h : I.ι n = some (.row sz v)) (hs : ∃ A l c, v = .slice A l c) : VR I w (.rw n) v
 | sl (n o l sz : Nat) (A A' : Option Addr) (len cap cap' : Nat) (h : I.ι n = some (.row sz (.slice A len cap))) (hl : o + l ≤ len) (h0 : o = 0 → A' = A ∧ cap' = cap) (h1 : 0 < l → ∃ b, A = some ⟨b, 0, none⟩ ∧ A' = some ⟨b, o * sz, none⟩) (hc : l ≤ cap') : VR I w (.sl n o l) (.slice A' l cap')
 | vs (s : Sh) (xs : List s.T) (v : Value) (h : (Sh.sl s).K I.R w xs [v]) : VR I w (.vs s xs) v
 | fn (F : Fn) (a b : List DV) (a' b' : Array Value) (h1 : LR I w a a'.toList) (h2 : LR I w b b'.toList) : VR I w (.fn F a b) (.func F a' b')
 | agg (ds : List DV) (cs : Array Value) (h : CR I w ds cs.toList) : VR I w (.agg ds) (.agg cs)
 | tup (ds : List DV) (vs : Array Value) (h : LR I w ds vs.toList) : VR I w (.tup ds) (.tuple vs)
 | tab (ks : List (List Int)) (vs : List DV) (val : Int → Value) (b : Nat) (es : Array MapEntry) (clock : Nat) (hR : I.R b) (hb : w.heap[b]? = some (.map es clock)) (hE : TabE ks vs val es.toList) (h : ∀ n d, d8 ks vs n = some d → VR I w d (val n)) : VR I w (.tab ks vs) (.map (some b))
 | mh (n b : Nat) (h : I.ι n = some (.obj b)) : VR I w (.mh n) (.map (some b))
 | fp (t : TypeId) (n : Nat) (v : Value) (h : (Sh.fp t).K I.R w n [v]) : VR I w (.fp t n) v
 | ps (n o : Nat) (p : List Ix) (m l b cap : Nat) (h : I.ι n = some (.obj b)) (hp : lJ p) (hl : l ≤ cap) (hm : l ≤ m) : VR I w (.ps n o p m l) (.slice (some ⟨b, o + dN p, none⟩) l cap)
inductive CR (I : In) (w : World) : List DV → List Value → Prop where
 | nil : CR I w [] []
 | one (d : DV) (r : List DV) (u : Value) (cs : List Value) (h : VR I w d u) (hu : u.oneCell' = true) (hr : CR I w r cs) : CR I w (d :: r) (u :: cs)
 | arr (s : Sh) (n : Nat) (xs : List s.T) (r : List DV) (c cs : List Value) (h : (Sh.arr n s).K I.R w xs c) (h1 : ∀ u ∈ c, u.oneCell' = true) (hr : CR I w r cs) : CR I w (.arr s n xs :: r) (c ++ cs)
inductive LR (I : In) (w : World) : List DV → List Value → Prop where
 | nil : LR I w [] []
 | cons (d : DV) (r : List DV) (u : Value) (vs : List Value) (h : VR I w d u) (hr : LR I w r vs) : LR I w (d :: r) (u :: vs)
end
theorem Sh.K_one {R : RO} {w : World} : ∀ {s : Sh} {x : s.T} {cs : List Value}, s.K R w x cs → ∀ u ∈ cs, u.oneCell' = true
 | .int _, _, _, h, u, hu => by cases h; simp at hu; subst hu; rfl
 | .bool, _, _, h, u, hu => by cases h; simp at hu; subst hu; rfl
 | .str, _, _, h, u, hu => by cases h; simp at hu; subst hu; rfl
 | .pair a b, x, _, ⟨c1, c2, e, h1, h2⟩, u, hu => by
  rw [e, az] at hu
  rcases hu with hu | hu
  ·exact K_one h1 u hu
  ·exact K_one h2 u hu
 | .sl _, _, _, ⟨A, cap, e, _⟩, u, hu => by rw [e] at hu; simp at hu; subst hu; rfl
 | .fp t, n, cs, h, u, hu => by
  have h' : cs = [.pointer none] ∨ ∃ b : Nat, cs = [.pointer (some ⟨b, 0, none⟩)] := by
   rcases h with ⟨_, e⟩ | ⟨m, b, _, _, e⟩
   ·exact .inl e
   ·exact .inr ⟨b, e⟩
  rcases h' with rfl | ⟨b, rfl⟩ <;> (simp at hu; subst hu; rfl)
 | .arr n e, xs, cs, ⟨h1, h2, h3⟩, u, hu => by
  obtain ⟨j, hj, rfl⟩ := co hu
  have hz : 0 < e.sz := by
   rcases bW e.sz with h | h
   ·rw [h2, h] at hj; omega
   ·exact h
  have hi : j / e.sz < n := by rw [Nat.div_lt_iff_lt_mul hz]; omega
  have hx : xs[j / e.sz]? = some (xs[j / e.sz]'(by omega)) := ax _
  refine K_one (h3 _ _ hx) _ ?_
  have hm : j % e.sz < e.sz := Nat.mod_lt _ hz
  have hj2 : j / e.sz * e.sz + j % e.sz = j := by rw [Nat.mul_comm]; exact Nat.div_add_mod j e.sz
  have hg : ((cs.drop (j / e.sz * e.sz)).take e.sz)[j % e.sz]? = some cs[j] := by
   rw [aP, if_pos hm, aV, hj2, ax hj]
  exact cF hg
theorem CR.append {I : In} {w : World} : ∀ {a b : List DV} {c d : List Value}, CR I w a c → CR I w b d → CR I w (a ++ b) (c ++ d)
 | _, _, _, _, .nil, h => h
 | _, _, _, _, .one d r u cs h hu hr, k => .one d _ u _ h hu (CR.append hr k)
 | _, _, _, _, .arr s n xs r c cs h h1 hr, k => by
  rw [aI]
  exact .arr s n xs _ c _ h h1 (CR.append hr k)
theorem Sh.enc_ok {I : In} {w : World} : ∀ {s : Sh} {x : s.T} {cs : List Value}, s.K I.R w x cs → CR I w (s.enc x) cs
 | .int k, n, _, h => by cases h; exact .one _ _ _ _ (.sc _ rfl) rfl .nil
 | .bool, b, _, h => by cases h; exact .one _ _ _ _ (.sc _ rfl) rfl .nil
 | .str, s, _, h => by cases h; exact .one _ _ _ _ (.sc _ rfl) rfl .nil
 | .pair a b, x, _, ⟨c1, c2, e, h1, h2⟩ => by rw [e]; exact CR.append (enc_ok h1) (enc_ok h2)
 | .sl e, xs, cs, h => by
  obtain ⟨A, cap, rfl, h2⟩ := id h
  exact .one _ _ _ _ (.vs e xs _ h) rfl .nil
 | .fp t, n, cs, h => by
  have h' := h
  rcases h with ⟨_, rfl⟩ | ⟨m, b, _, _, rfl⟩ <;> exact .one _ _ _ _ (.fp t n _ h') rfl .nil
 | .arr n e, xs, cs, h => by
  have := CR.arr (I := I) (w := w) e n xs [] cs [] h (K_one h) .nil
  simpa [Sh.enc] using this
theorem Sh.enc_imm : ∀ (s : Sh) (x : s.T), ∀ d ∈ s.enc x, d.imm = true
 | .int _, _, d, h => by simp only [Sh.enc, aq] at h; subst h; rfl
 | .bool, _, d, h => by simp only [Sh.enc, aq] at h; subst h; rfl
 | .str, _, d, h => by simp only [Sh.enc, aq] at h; subst h; rfl
 | .pair a b, x, d, h => by
  simp only [Sh.enc, az] at h
  rcases h with h | h
  ·exact enc_imm a _ d h
  ·exact enc_imm b _ d h
 | .sl _, _, d, h => by simp only [Sh.enc, aq] at h; subst h; rfl
 | .arr _ _, _, d, h => by simp only [Sh.enc, aq] at h; subst h; rfl
 | .fp _, _, d, h => by simp only [Sh.enc, aq] at h; subst h; rfl
theorem En {I : In} {w : World} {e : Sh} (f : List DV → Option (e.T × List DV))
  (hf : ∀ {its r : List DV} {x : e.T} {cs : List Value}, f its = some (x, r) → CR I w its cs → ∃ c1 c2, cs = c1 ++ c2 ∧ e.K I.R w x c1 ∧ CR I w r c2) :
  ∀ (n : Nat) {its r : List DV} {xs : List e.T} {cs : List Value}, BG f n its = some (xs, r) → CR I w its cs → ∃ c1 c2, cs = c1 ++ c2 ∧ (Sh.arr n e).K I.R w xs c1 ∧ CR I w r c2
 | 0, its, r, xs, cs, h, hc => by
  simp only [BG, ab, ah] at h
  obtain ⟨rfl, rfl⟩ := h
  exact ⟨[], cs, rfl, ⟨rfl, by simp, fun i x hx => by simp at hx⟩, hc⟩
 | n + 1, its, r, xs, cs, h, hc => by
  simp only [BG] at h
  split at h
  ·rename_i x r1 h1
   split at h
   ·rename_i ys r2 h2
    simp only [ab, ah] at h
    obtain ⟨rfl, rfl⟩ := h
    obtain ⟨c1, c2, rfl, k1, k2⟩ := hf h1 hc
    obtain ⟨d1, d2, rfl, ⟨m1, m2, m3⟩, m4⟩ := En f hf n h2 k2
    have hl := Sh.K_len k1
    refine ⟨c1 ++ d1, d2, by simp, ⟨by simp [m1], by simp [m2, hl, bH, bS], fun i y hy => ?_⟩, m4⟩
    cases i with
    | zero =>
     simp only [bu, ab] at hy
     subst hy
     simpa [bC (aZ hl.symm), aR (aZ hl)] using k1
    | succ i =>
     simp only [cG] at hy
     have := m3 i y hy
     rw [aK, bS, ← bv, bX (aZ hl.symm), ce (aZ hl), bI]
     exact this
   ·cases h
  ·cases h
theorem Sh.dec_ok {I : In} {w : World} : ∀ {s : Sh} {its r : List DV} {x : s.T} {cs : List Value}, s.dec its = some (x, r) → CR I w its cs → ∃ c1 c2, cs = c1 ++ c2 ∧ s.K I.R w x c1 ∧ CR I w r c2
 | .int k, its, r, x, cs, h, hc => by
  simp only [Sh.dec] at h
  split at h
  ·split at h
   ·rename_i k' n r' hk
    simp only [ab, ah] at h
    obtain ⟨rfl, rfl⟩ := h
    subst hk
    cases hc with
    | one _ _ u c2 hv hu hr => cases hv; exact ⟨[_], c2, rfl, rfl, hr⟩
   ·cases h
  ·cases h
 | .bool, its, r, x, cs, h, hc => by
  simp only [Sh.dec] at h
  split at h
  ·simp only [ab, ah] at h
   obtain ⟨rfl, rfl⟩ := h
   cases hc with
   | one _ _ u c2 hv hu hr => cases hv; exact ⟨[_], c2, rfl, rfl, hr⟩
  ·cases h
 | .str, its, r, x, cs, h, hc => by
  simp only [Sh.dec] at h
  split at h
  ·simp only [ab, ah] at h
   obtain ⟨rfl, rfl⟩ := h
   cases hc with
   | one _ _ u c2 hv hu hr => cases hv; exact ⟨[_], c2, rfl, rfl, hr⟩
  ·cases h
 | .pair a b, its, r, x, cs, h, hc => by
  simp only [Sh.dec] at h
  split at h
  ·rename_i x1 r1 h1
   split at h
   ·rename_i y r2 h2
    simp only [ab, ah] at h
    obtain ⟨rfl, rfl⟩ := h
    obtain ⟨c1, c2, rfl, k1, k2⟩ := dec_ok h1 hc
    obtain ⟨d1, d2, rfl, m1, m2⟩ := dec_ok h2 k2
    exact ⟨c1 ++ d1, d2, by simp, ⟨c1, d1, rfl, k1, m1⟩, m2⟩
   ·cases h
  ·cases h
 | .sl e, its, r, x, cs, h, hc => by
  simp only [Sh.dec] at h
  split at h
  ·rename_i e' xs r'
   split at h
   ·rename_i hs hq
    cases hs
    simp only [ab, ah] at h
    obtain ⟨rfl, rfl⟩ := h
    cases hc with
    | one _ _ u c2 hv hu hr => cases hv with | vs _ _ _ hk => exact ⟨[u], c2, rfl, hk, hr⟩
   ·cases h
  ·rename_i n cap r'
   split at h
   ·rename_i hn
    subst hn
    simp only [ab, ah] at h
    obtain ⟨rfl, rfl⟩ := h
    cases hc with
    | one _ _ u c2 hv hu hr => cases hv; exact ⟨[_], c2, rfl, ⟨none, cap, rfl, aA _, fun h => absurd rfl h⟩, hr⟩
   ·cases h
  ·cases h
 | .fp t, its, r, x, cs, h, hc => by
  simp only [Sh.dec] at h
  split at h
  ·split at h
   ·rename_i t' n r' ht
    subst ht
    simp only [ab, ah] at h
    obtain ⟨rfl, rfl⟩ := h
    cases hc with
    | one _ _ u c2 hv hu hr => cases hv with | fp _ _ _ hk => exact ⟨[u], c2, rfl, hk, hr⟩
   ·cases h
  ·simp only [ab, ah] at h
   obtain ⟨rfl, rfl⟩ := h
   cases hc with
   | one _ _ u c2 hv hu hr => cases hv; exact ⟨[_], c2, rfl, .inl ⟨rfl, rfl⟩, hr⟩
  ·cases h
 | .arr n e, its, r, x, cs, h, hc => by
  simp only [Sh.dec] at h
  split at h
  ·rename_i e' n' xs r'
   split at h
   ·rename_i hn
    subst hn
    split at h
    ·rename_i hs hq
     cases hs
     simp only [ab, ah] at h
     obtain ⟨rfl, rfl⟩ := h
     cases hc with
     | one _ _ u c2 hv hu hr => cases hv
     | arr _ _ _ _ c c2 hk h1 hr => exact ⟨c, c2, rfl, hk, hr⟩
    ·cases h
   ·cases h
  ·exact En _ (fun h1 h2 => dec_ok h1 h2) n h hc
end Go.Proofs.Dk
namespace Go.Proofs.Dk
open Go Go.RowKit
variable {I : In} {w : World}
theorem CR.len : ∀ {its : List DV} {cs : List Value}, CR I w its cs → cs.length = pH its
  | _, _, .nil => rfl
  | _, _, .one d r u cs h hu hr => by
    have := CR.len hr
    cases h <;> simp [pH, DV.wd, this, bS]
  | _, _, .arr s n xs r c cs h h1 hr => by
    have := CR.len hr
    have h2 : c.length = n * s.sz := Sh.K_len h
    simp [pH, DV.wd, this, h2]
theorem CR.ones : ∀ {its : List DV} {cs : List Value}, CR I w its cs → ∀ u ∈ cs, u.oneCell' = true
  | _, _, .nil, u, hu => by cases hu
  | _, _, .one d r v cs h hv hr, u, hu => by
    rcases aB.1 hu with rfl | hu
    · exact hv
    · exact CR.ones hr u hu
  | _, _, .arr s n xs r c cs h h1 hr, u, hu => by
    rcases az.1 hu with hu | hu
    · exact h1 u hu
    · exact CR.ones hr u hu
theorem CR.head {d : DV} {r : List DV} {cs : List Value} (h : CR I w (d :: r) cs) : ∃ c1 c2, cs = c1 ++ c2 ∧ c1.length = d.wd ∧ CR I w [d] c1 ∧ CR I w r c2 := by
  cases h with
  | one _ _ u c hv hu hr =>
    refine ⟨[u], c, rfl, ?_, .one _ _ _ _ hv hu .nil, hr⟩
    cases hv <;> rfl
  | arr s n xs _ c c2 hk h1 hr =>
    refine ⟨c, c2, rfl, Sh.K_len hk, ?_, hr⟩
    have := CR.arr (I := I) (w := w) s n xs [] c [] hk h1 .nil
    simpa using this
theorem CR.cons {d : DV} {r : List DV} {c1 c2 : List Value} (h : CR I w [d] c1) (hr : CR I w r c2) : CR I w (d :: r) (c1 ++ c2) := by
  have := CR.append h hr
  simpa using this
theorem lU : ∀ {its : List DV} {o : Nat} {r : List DV} {cs : List Value}, jy o its = some r → CR I w its cs → ∃ c1 c2, cs = c1 ++ c2 ∧ c1.length = o ∧ CR I w (Fx o its) c1 ∧ CR I w r c2
  | [], o, r, cs, h, hc => by
    simp only [jy] at h
    split at h
    · rename_i ho
      simp only [ab] at h
      subst h ho
      exact ⟨[], cs, rfl, rfl, .nil, hc⟩
    · cases h
  | d :: l, o, r, cs, h, hc => by
    simp only [jy] at h
    split at h
    · rename_i ho
      simp only [ab] at h
      subst h ho
      exact ⟨[], cs, rfl, rfl, .nil, hc⟩
    · rename_i ho
      split at h
      · rename_i hw
        obtain ⟨c1, c2, rfl, hl, h1, h2⟩ := hc.head
        obtain ⟨d1, d2, rfl, hm, k1, k2⟩ := lU h h2
        refine ⟨c1 ++ d1, d2, by simp, by simp [hl, hm]; omega, ?_, k2⟩
        simp only [Fx, ho, aC]
        exact h1.cons k1
      · cases h
theorem lV : ∀ {its : List DV} {n : Nat} {l : List DV} {cs : List Value}, nu n its = some l → CR I w its cs → ∃ c1 c2, cs = c1 ++ c2 ∧ c1.length = n ∧ CR I w l c1
  | [], n, l, cs, h, hc => by
    simp only [nu] at h
    split at h
    · rename_i ho
      simp only [ab] at h
      subst h ho
      exact ⟨[], cs, rfl, rfl, .nil⟩
    · cases h
  | d :: r, n, l, cs, h, hc => by
    simp only [nu] at h
    split at h
    · rename_i ho
      simp only [ab] at h
      subst h ho
      exact ⟨[], cs, rfl, rfl, .nil⟩
    · rename_i ho
      split at h
      · rename_i hw
        split at h
        · rename_i l' hl'
          simp only [ab] at h
          subst h
          obtain ⟨c1, c2, rfl, hl, h1, h2⟩ := hc.head
          obtain ⟨d1, d2, rfl, hm, k1⟩ := lV hl' h2
          exact ⟨c1 ++ d1, d2, by simp, by simp [hl, hm]; omega, h1.cons k1⟩
        · cases h
      · cases h
def dK (cs : List Value) (o : Nat) (d : List Value) : List Value := cs.take o ++ d ++ cs.drop (o + d.length)
theorem iB {cs d : List Value} {o : Nat} (h : o + d.length ≤ cs.length) : (dK cs o d).length = cs.length := by
  simp [dK]; omega
theorem iM {c1 c2 d : List Value} {o : Nat} : dK (c1 ++ c2) (c1.length + o) d = c1 ++ dK c2 o d := by
  simp only [dK]
  rw [bD, List.take_length_add_append, List.drop_length_add_append]
  simp
theorem n6 {c1 c2 d : List Value} {o : Nat} (h : o + d.length ≤ c1.length) : dK (c1 ++ c2) o d = dK c1 o d ++ c2 := by
  simp only [dK]
  rw [bC (by omega), bX (by omega)]
  simp
theorem xN {c d : List Value} {i sz o : Nat} (h : o + d.length ≤ sz) (hle : i + sz ≤ c.length) : dK c i (dK ((c.drop i).take sz) o d) = dK c (i + o) d := by
  obtain ⟨a, m, z, rfl, ha, hm⟩ : ∃ a m z, c = a ++ (m ++ z) ∧ a.length = i ∧ m.length = sz :=
    ⟨c.take i, (c.drop i).take sz, (c.drop i).drop sz, by rw [bE, bE], by simp; omega, by simp; omega⟩
  subst ha hm
  have e1 : ((a ++ (m ++ z)).drop a.length).take m.length = m := by simp
  rw [e1, iM, n6 h]
  have := iB h
  simp only [dK] at this ⊢
  have e2 : (a ++ (m ++ z)).drop (a.length + (List.take o m ++ d ++ List.drop (o + d.length) m).length) = z := by
    rw [List.drop_length_add_append, this]
    simp
  rw [e2]
  simp
theorem ze : ∀ {old new l : List DV} {c d : List Value}, pc old new = some l → CR I w old c → CR I w new d → d.length ≤ c.length ∧ CR I w l (d ++ c.drop d.length)
  | old, [], l, c, d, h, hc, hd => by
    cases hd
    cases old <;> (simp only [pc, ab] at h; subst h; exact ⟨aA _, by simpa using hc⟩)
  | [], x :: new, l, c, d, h, hc, hd => by simp [pc] at h
  | o :: r, x :: new, l, c, d, h, hc, hd => by
    obtain ⟨c1, c2, rfl, hl, h1, h2⟩ := hc.head
    by_cases ho : ∃ s n xs, o = .arr s n xs
    · obtain ⟨s, n, xs, rfl⟩ := ho
      simp only [pc] at h
      split at h
      · rename_i ys new' hy
        split at h
        · rename_i l' hl'
          simp only [ab] at h
          subst h
          obtain ⟨d1, d2, rfl, k1, k2⟩ := Sh.dec_ok hy hd
          obtain ⟨m1, m2⟩ := ze hl' h2 k2
          have e1 : d1.length = n * s.sz := Sh.K_len k1
          have e2 : c1.length = n * s.sz := hl
          refine ⟨by simp; omega, ?_⟩
          have := CR.arr (I := I) (w := w) s n ys _ d1 _ k1 (Sh.K_one k1) m2
          have e3 : (d1 ++ d2) ++ (c1 ++ c2).drop (d1 ++ d2).length = d1 ++ (d2 ++ c2.drop d2.length) := by
            rw [aF, aI, show d1.length + d2.length = c1.length + d2.length by omega, ← bv]
            simp
          rw [e3]
          exact this
        · cases h
      · cases h
    · have hnx : ∀ s n xs, x ≠ .arr s n xs := by
        rintro s n xs rfl
        cases o <;> first | exact absurd ⟨_, _, _, rfl⟩ ho | (simp [pc] at h)
      have hp : ∃ l', pc r new = some l' ∧ l = x :: l' := by
        cases o <;> first
          | exact absurd ⟨_, _, _, rfl⟩ ho
          | (cases x <;> first
              | exact absurd rfl (hnx _ _ _)
              | (simp only [pc] at h
                 split at h
                 · rename_i l' hl'
                   simp only [ab] at h
                   exact ⟨l', hl', h.symm⟩
                 · cases h))
      obtain ⟨l', hl', rfl⟩ := hp
      cases hd with
      | arr s n xs _ _ _ _ _ _ => exact absurd rfl (hnx s n xs)
      | one _ _ u d2 hv hu hr =>
        obtain ⟨m1, m2⟩ := ze hl' h2 hr
        have hc1 : c1.length = 1 := by
          rw [hl]
          cases o <;> first | rfl | exact absurd ⟨_, _, _, rfl⟩ ho
        obtain ⟨u0, rfl⟩ : ∃ u0, c1 = [u0] := by
          match c1, hc1 with
          | [u0], _ => exact ⟨u0, rfl⟩
        exact ⟨by simpa using m1, by simpa using .one _ _ _ _ hv hu m2⟩
theorem getD_some {α : Type} (xs : List α) (i : Nat) (d : α) (h : i < xs.length) : xs[i]? = some (xs.getD i d) := by
  rw [ax h, ao, ax h]
  rfl
theorem pJ : ∀ {p : List Ix} {its its' : List DV} {cs : List Value}, pE its p = some its' → lJ p → CR I w its cs → ∃ cs', CR I w its' cs' ∧ ∀ (j : Nat) (u : Value), cs'[j]? = some u → cs[dN p + j]? = some u
  | [], its, its', cs, h, _, hc => by
    simp only [pE, ab] at h
    subst h
    exact ⟨cs, hc, fun j u hu => by simpa [dN] using hu⟩
  | .off k :: p, its, its', cs, h, hp, hc => by
    simp only [pE] at h
    split at h
    · rename_i r hr
      obtain ⟨c1, c2, rfl, hl, _, h2⟩ := lU hr hc
      obtain ⟨cs', k1, k2⟩ := pJ h hp h2
      refine ⟨cs', k1, fun j u hu => ?_⟩
      have := k2 j u hu
      simp only [dN]
      rw [aW (by omega), ← this]
      congr 1
      omega
    · cases h
  | .ix i m sz :: p, its, its', cs, h, hp, hc => by
    simp only [pE] at h
    split at h
    · rename_i s m' ys r
      split at h
      · rename_i hm
        subst hm
        split at h
        · rename_i hz
          subst hz
          cases hc with
          | one _ _ u c2 hv hu hr => cases hv
          | arr _ _ _ _ c c2 hk h1 hr =>
            obtain ⟨k1, k2, k3⟩ := hk
            have hi : i < ys.length := by rw [k1]; exact hp.1
            have hx := k3 i _ (getD_some ys i s.dflt hi)
            obtain ⟨cs', g1, g2⟩ := pJ h hp.2 (Sh.enc_ok hx)
            refine ⟨cs', g1, fun j u hu => ?_⟩
            have h3 := g2 j u hu
            rw [aP] at h3
            split at h3
            · rename_i hlt
              rw [aV] at h3
              simp only [dN]
              rw [aN (by
                have := (List.getElem?_eq_some_iff.1 h3).1
                omega), ← h3]
              congr 1
              omega
            · cases h3
        · cases h
      · cases h
    · cases h
theorem Lr {R : RO} {s : Sh} {n : Nat} {xs : List s.T} {c d : List Value} {i : Nat} {y : s.T} (h : (Sh.arr n s).K R w xs c) (hi : i < n) (hd : s.K R w y d) : (Sh.arr n s).K R w (xs.set i y) (dK c (i * s.sz) d) ∧ i * s.sz + d.length ≤ c.length := by
  obtain ⟨h1, h2, h3⟩ := h
  have hl := Sh.K_len hd
  have hle : i * s.sz + s.sz ≤ n * s.sz := by
    rw [← aK]
    exact aS _ hi
  refine ⟨⟨by simp [h1], by rw [iB (by omega)]; exact h2, fun j x hx => ?_⟩, by omega⟩
  have hlen : (c.take (i * s.sz)).length = i * s.sz := by simp; omega
  by_cases e : j = i
  · subst e
    have hx2 : x = y := by
      have hj : j < xs.length := by omega
      simpa [bY, hj] using hx.symm
    subst hx2
    have e1 : ((dK c (j * s.sz) d).drop (j * s.sz)).take s.sz = d := by
      simp only [dK]
      rw [aI, bX (by omega), ce (by omega), bI, bC (by omega), aR (by omega)]
    rw [e1]
    exact hd
  · rw [bY, if_neg (Ne.symm e)] at hx
    have h4 := h3 j x hx
    have e1 : ((dK c (i * s.sz) d).drop (j * s.sz)).take s.sz = (c.drop (j * s.sz)).take s.sz := by
      apply cq
      intro q
      simp only [aP, aV]
      split
      · rename_i hq
        have hj : j < n := by
          have := (List.getElem?_eq_some_iff.1 hx).1
          omega
        simp only [dK]
        rcases Nat.lt_or_gt_of_ne e with hlt | hgt
        · have : j * s.sz + s.sz ≤ i * s.sz := by rw [← aK]; exact aS _ hlt
          rw [aI, aN (by omega), aP, if_pos (by omega)]
        · have : i * s.sz + s.sz ≤ j * s.sz := by rw [← aK]; exact aS _ hgt
          rw [aW (by simp; omega), aV]
          congr 1
          simp
          omega
      · rfl
    rw [e1]
    exact h4
theorem nM : ∀ {p : List Ix} {its its' new : List DV} {cs d : List Value}, nX new p its = some its' → lJ p → CR I w its cs → CR I w new d → dN p + d.length ≤ cs.length ∧ CR I w its' (dK cs (dN p) d)
  | [], its, its', new, cs, d, h, _, hc, hd => by
    simp only [nX] at h
    obtain ⟨h1, h2⟩ := ze h hc hd
    exact ⟨by simpa [dN] using h1, by simpa [dN, dK] using h2⟩
  | .off k :: p, its, its', new, cs, d, h, hp, hc, hd => by
    simp only [nX] at h
    split at h
    · rename_i r hr
      split at h
      · rename_i l hl
        simp only [ab] at h
        subst h
        obtain ⟨c1, c2, rfl, hlen, h1, h2⟩ := lU hr hc
        obtain ⟨k1, k2⟩ := nM hl hp h2 hd
        refine ⟨by simp [dN]; omega, ?_⟩
        have e : dK (c1 ++ c2) (k + dN p) d = c1 ++ dK c2 (dN p) d := by rw [← hlen, iM]
        simp only [dN]
        rw [e]
        exact h1.append k2
      · cases h
    · cases h
  | .ix i m sz :: p, its, its', new, cs, d, h, hp, hc, hd => by
    simp only [nX] at h
    split at h
    · rename_i s m' ys r
      split at h
      · rename_i hm
        subst hm
        split at h
        · rename_i hz
          subst hz
          split at h
          · rename_i l hl
            split at h
            · rename_i y hy
              simp only [ab] at h
              subst h
              cases hc with
              | one _ _ u c2 hv hu hr => cases hv
              | arr _ _ _ _ c c2 hk h1 hr =>
                obtain ⟨k1, k2, k3⟩ := id hk
                have hi : i < ys.length := by rw [k1]; exact hp.1
                have hx := k3 i _ (getD_some ys i s.dflt hi)
                obtain ⟨g1, g2⟩ := nM hl hp.2 (Sh.enc_ok hx) hd
                obtain ⟨d1, d2, e1, e2, e3⟩ := Sh.dec_ok hy g2
                cases e3
                rw [aG] at e1
                subst e1
                obtain ⟨q1, q2⟩ := Lr hk hp.1 e2
                have hle : i * s.sz + s.sz ≤ m' * s.sz := by rw [← aK]; exact aS _ hp.1
                have hlx := Sh.K_len hx
                have hb : i * s.sz + dN p + d.length ≤ c.length := by omega
                have hs : dK c (i * s.sz) (dK ((c.drop (i * s.sz)).take s.sz) (dN p) d) = dK c (i * s.sz + dN p) d := xN (by omega) (by omega)
                refine ⟨by simp [dN]; omega, ?_⟩
                simp only [dN]
                rw [n6 hb, ← hs]
                exact .arr s m' _ _ _ _ q1 (Sh.K_one q1) hr
            · cases h
          · cases h
        · cases h
      · cases h
    · cases h
theorem Eo {P : Program} {t : TypeId} {its : List DV} {v : DV} {cs : List Value} (h : ne P t its = some v) (hc : CR I w its cs) :
    (fJ P t = true ∧ VR I w v (.agg cs.toArray)) ∨ (fJ P t = false ∧ (P.underlying t).isSome = true ∧ ∃ u, cs = [u] ∧ VR I w v u ∧ u.oneCell' = true) := by
  unfold ne at h
  split at h
  · rename_i hm
    simp only [ab] at h
    subst h
    exact .inl ⟨hm, .agg _ _ (by simpa using hc)⟩
  · rename_i hm
    split at h
    · rename_i hud
      split at h
      · cases h
      · rename_i d hd
        simp only [ab] at h
        subst h
        cases hc with
        | arr s n xs _ _ _ _ _ _ => exact absurd rfl (hd s n xs)
        | one _ _ u c2 hv hu hr => cases hr; exact .inr ⟨by simpa using hm, hud, u, rfl, hv, hu⟩
      · cases h
    · cases h
theorem vd : ∀ {l : List (Option (Nat × Sh))} {its out : List DV} {cs : List Value}, pd l its = some out → CR I w its cs → CR I w out cs
  | [], its, out, cs, h, hc => by
    cases its with
    | nil => simp only [pd, ab] at h; subst h; exact hc
    | cons a b => simp [pd] at h
  | none :: l, its, out, cs, h, hc => by
    simp only [pd] at h
    split at h
    · cases h
    · rename_i x r hx
      split at h
      · rename_i l' hl'
        simp only [ab] at h
        subst h
        obtain ⟨c1, c2, rfl, _, h1, h2⟩ := hc.head
        exact h1.cons (vd hl' h2)
      · cases h
    · cases h
  | some (m, s) :: l, its, out, cs, h, hc => by
    simp only [pd] at h
    split at h
    · rename_i ys r hy
      split at h
      · rename_i l' hl'
        simp only [ab] at h
        subst h
        obtain ⟨d1, d2, rfl, k1, k2⟩ := Sh.dec_ok hy hc
        exact .arr s m ys _ _ _ k1 (Sh.K_one k1) (vd hl' k2)
      · cases h
    · cases h
end Go.Proofs.Dk
namespace Go.Proofs.Dk
open Go Go.RowKit
theorem sS : ∀ (ks : List (List Int)) (vs : List DV) (n : Int), d8 ks (iy vs) n = (d8 ks vs n).map DV.bare
 | [], vs, n => by cases vs <;> rfl
 | l :: ks, [], n => rfl
 | l :: ks, v :: vs, n => by
  simp only [iy, d8]
  split
  ·rfl
  ·exact sS ks vs n
theorem ko {m : Nat} {g : Sub} : ∀ (ks : List (List Int)) (vs : List DV) (n : Int), d8 ks (eb m g vs) n = (d8 ks vs n).map (DV.sub m g)
 | [], vs, n => by cases vs <;> rfl
 | l :: ks, [], n => rfl
 | l :: ks, v :: vs, n => by
  simp only [eb, d8]
  split
  ·rfl
  ·exact ko ks vs n
section
variable {I I' : In} {w w' : World}
structure Same (I I' : In) (w w' : World) : Prop where
 keeps : Keeps I.R I'.R w w'
 obj : ∀ n b, I.ι n = some (.obj b) → I'.ι n = some (.obj b)
 row : ∀ n sz v, I.ι n = some (.row sz v) → I'.ι n = some (.row sz v)
theorem jz (hk : Keeps I.R I'.R w w') : ∀ {d : List DV} {v : List Value}, CR I w d v → (∀ x ∈ d, x.imm = true) → CR I' w' d v
 | _, _, .nil, _ => .nil
 | _, _, .one d r u cs h hu hr, hi => by
  have h1 := hi d (aD ..)
  refine .one d r u cs ?_ hu (jz hk hr (fun x hx => hi x (ay _ hx)))
  cases h with
  | sc _ h => exact .sc _ h
  | vs s xs _ h => exact .vs s xs _ (Sh.K_keep hk h)
  | fp t n _ h => exact .fp t n _ (Sh.K_keep hk h)
  | _ => cases h1
 | _, _, .arr s n xs r c cs h h1 hr, hi => .arr s n xs r c cs (Sh.K_keep hk h) h1 (jz hk hr (fun x hx => hi x (ay _ hx)))
mutual
theorem VR.keep (hs : Same I I' w w') : ∀ {d : DV} {v : Value}, VR I w d v → VR I' w' d v
 | _, _, .undef v => .undef v
 | _, _, .sc v h => .sc v h
 | _, _, .ptr n o p b h hp => .ptr n o p b (hs.obj _ _ h) hp
 | _, _, .rp n sz i p b len cap h hi hp => .rp n sz i p b len cap (hs.row _ _ _ h) hi hp
 | _, _, .pi its a cs h0 hR him h hc => .pi its a cs h0 (hs.keeps.sub _ hR) him (jz hs.keeps h him) (fun j u hu => (kB (by rw [gh]; exact hs.keeps.same _ hR)).trans (hc j u hu))
 | _, _, .rw n sz v h h2 => .rw n sz v (hs.row _ _ _ h) h2
 | _, _, .sl n o l sz A A' len cap cap' h hl h0 h1 hc => .sl n o l sz A A' len cap cap' (hs.row _ _ _ h) hl h0 h1 hc
 | _, _, .vs s xs v h => .vs s xs v (Sh.K_keep hs.keeps h)
 | _, _, .fn F a b a' b' h1 h2 => .fn F a b a' b' (LR.keep hs h1) (LR.keep hs h2)
 | _, _, .agg ds cs h => .agg ds cs (CR.keep hs h)
 | _, _, .tup ds vs h => .tup ds vs (LR.keep hs h)
 | _, _, .tab ks vs us b es cl hR hb hE h => .tab ks vs us b es cl (hs.keeps.sub _ hR) ((hs.keeps.same _ hR).trans hb) hE (fun n d hp => VR.keep hs (h n d hp))
 | _, _, .mh n b h => .mh n b (hs.obj _ _ h)
 | _, _, .fp t n v h => .fp t n v (Sh.K_keep hs.keeps h)
 | _, _, .ps n o p m l b cap h hp hl hm => .ps n o p m l b cap (hs.obj _ _ h) hp hl hm
theorem CR.keep (hs : Same I I' w w') : ∀ {d : List DV} {v : List Value}, CR I w d v → CR I' w' d v
 | _, _, .nil => .nil
 | _, _, .one d r u cs h hu hr => .one d r u cs (VR.keep hs h) hu (CR.keep hs hr)
 | _, _, .arr s n xs r c cs h h1 hr => .arr s n xs r c cs (Sh.K_keep hs.keeps h) h1 (CR.keep hs hr)
theorem LR.keep (hs : Same I I' w w') : ∀ {d : List DV} {v : List Value}, LR I w d v → LR I' w' d v
 | _, _, .nil => .nil
 | _, _, .cons d r u vs h hr => .cons d r u vs (VR.keep hs h) (LR.keep hs hr)
end
structure ObjS (I I' : In) (w w' : World) : Prop where
 keeps : Keeps I.R I'.R w w'
 obj : ∀ n b, I.ι n = some (.obj b) → I'.ι n = some (.obj b)
mutual
theorem VR.bare (hs : ObjS I I' w w') : ∀ {d : DV} {v : Value}, VR I w d v → VR I' w' d.bare v
 | _, _, .undef v => .undef v
 | _, _, .sc v h => .sc v h
 | _, _, .ptr n o p b h hp => .ptr n o p b (hs.obj _ _ h) hp
 | _, _, .rp n sz i p b len cap h hi hp => .undef _
 | _, _, .pi its a cs h0 hR him h hc => .pi its a cs h0 (hs.keeps.sub _ hR) him (jz hs.keeps h him) (fun j u hu => (kB (by rw [gh]; exact hs.keeps.same _ hR)).trans (hc j u hu))
 | _, _, .rw n sz v h h2 => .undef _
 | _, _, .sl n o l sz A A' len cap cap' h hl h0 h1 hc => .undef _
 | _, _, .vs s xs v h => .vs s xs v (Sh.K_keep hs.keeps h)
 | _, _, .fn F a b a' b' h1 h2 => .fn F _ _ a' b' (LR.bare hs h1) (LR.bare hs h2)
 | _, _, .agg ds cs h => .agg _ cs (CR.bare hs h)
 | _, _, .tup ds vs h => .tup _ vs (LR.bare hs h)
 | _, _, .tab ks vs us b es cl hR hb hE h => .tab ks _ us b es cl (hs.keeps.sub _ hR) ((hs.keeps.same _ hR).trans hb) (hE.map (sS ks vs)) (fun n d hp => by
   rw [sS] at hp
   obtain ⟨d0, h0, rfl⟩ := Option.map_eq_some_iff.1 hp
   exact VR.bare hs (h n d0 h0))
 | _, _, .mh n b h => .mh n b (hs.obj _ _ h)
 | _, _, .fp t n v h => .fp t n v (Sh.K_keep hs.keeps h)
 | _, _, .ps n o p m l b cap h hp hl hm => .ps n o p m l b cap (hs.obj _ _ h) hp hl hm
theorem CR.bare (hs : ObjS I I' w w') : ∀ {d : List DV} {v : List Value}, CR I w d v → CR I' w' (iy d) v
 | _, _, .nil => .nil
 | _, _, .one d r u cs h hu hr => .one _ _ u cs (VR.bare hs h) hu (CR.bare hs hr)
 | _, _, .arr s n xs r c cs h h1 hr => .arr s n xs _ c cs (Sh.K_keep hs.keeps h) h1 (CR.bare hs hr)
theorem LR.bare (hs : ObjS I I' w w') : ∀ {d : List DV} {v : List Value}, LR I w d v → LR I' w' (iy d) v
 | _, _, .nil => .nil
 | _, _, .cons d r u vs h hr => .cons _ _ u vs (VR.bare hs h) (LR.bare hs hr)
end
structure But (n : Nat) (g : Sub) (I I' : In) (w w' : World) : Prop where
 keeps : Keeps I.R I'.R w w'
 obj : ∀ m b, I.ι m = some (.obj b) → I'.ι m = some (.obj b)
 row : ∀ m sz v, m ≠ n → I.ι m = some (.row sz v) → I'.ι m = some (.row sz v)
 sub : ∀ s xs, g = .vs s xs → ∀ sz v, I.ι n = some (.row sz v) → sz = s.sz ∧ (Sh.sl s).K I'.R w' xs [v]
theorem Mz {R : RO} {s : Sh} {xs : List s.T} {A A' : Option Addr} {len cap cap' o l : Nat} (h : (Sh.sl s).K R w xs [.slice A len cap]) (hl : o + l ≤ len) (h1 : 0 < l → ∃ b, A = some ⟨b, 0, none⟩ ∧ A' = some ⟨b, o * s.sz, none⟩) (hc : l ≤ cap') : (Sh.sl s).K R w ((xs.drop o).take l) [.slice A' l cap'] := by
 obtain ⟨A0, cap0, e, h2, h3⟩ := h
 simp only [bm, Value.slice.injEq, aX] at e
 obtain ⟨rfl, rfl, rfl⟩ := e
 have hlen : ((xs.drop o).take l).length = l := by simp; omega
 refine ⟨A', cap', by rw [hlen], by omega, fun hn => ?_⟩
 have hlp : 0 < l := by
  rcases bW l with h0 | h0
  ·exact absurd (bn (by omega)) hn
  ·exact h0
 obtain ⟨b, rfl, rfl⟩ := h1 hlp
 have hx : xs ≠ [] := by
  intro e
  rw [e] at hl
  simp at hl
  omega
 obtain ⟨a, e1, e2, e3, e4⟩ := h3 hx
 simp only [ab] at e1
 subst e1
 refine ⟨_, rfl, rfl, e3, fun i x hx => ?_⟩
 have hx2 : xs[o + i]? = some x := by
  rw [aP] at hx
  split at hx
  ·rw [aV] at hx
   exact hx
  ·cases hx
 obtain ⟨c, g1, g2, g3⟩ := e4 _ x hx2
 refine ⟨c, g1, g2, fun j u hu => ?_⟩
 have := g3 j u hu
 rw [Addr.add_mid] at this ⊢
 rw [← this]
 congr 2
 rw [bH]
 omega
mutual
theorem VR.sub {n : Nat} {g : Sub} (hs : But n g I I' w w') : ∀ {d : DV} {v : Value}, VR I w d v → VR I' w' (d.sub n g) v
 | _, _, .undef v => .undef v
 | _, _, .sc v h => .sc v h
 | _, _, .ptr m o p b h hp => .ptr m o p b (hs.obj _ _ h) hp
 | _, _, .rp m sz i p b len cap h hi hp => by
  simp only [DV.sub]
  split
  ·exact .undef _
  ·rename_i hm
   exact .rp m sz i p b len cap (hs.row _ _ _ hm h) hi hp
 | _, _, .pi its a cs h0 hR him h hc => .pi its a cs h0 (hs.keeps.sub _ hR) him (jz hs.keeps h him) (fun j u hu => (kB (by rw [gh]; exact hs.keeps.same _ hR)).trans (hc j u hu))
 | _, _, .rw m sz v h h2 => by
  simp only [DV.sub]
  split
  ·rename_i hm
   subst hm
   cases g with
   | none => exact .undef _
   | vs s xs => exact .vs s xs v (hs.sub s xs rfl _ _ h).2
  ·rename_i hm
   exact .rw m sz v (hs.row _ _ _ hm h) h2
 | _, _, .sl m o l sz A A' len cap cap' h hl h0 h1 hc => by
  simp only [DV.sub]
  split
  ·rename_i hm
   subst hm
   cases g with
   | none => exact .undef _
   | vs s xs =>
    obtain ⟨rfl, hk⟩ := hs.sub s xs rfl _ _ h
    exact .vs s _ _ (Mz hk hl h1 hc)
  ·rename_i hm
   exact .sl m o l sz A A' len cap cap' (hs.row _ _ _ hm h) hl h0 h1 hc
 | _, _, .vs s xs v h => .vs s xs v (Sh.K_keep hs.keeps h)
 | _, _, .fn F a b a' b' h1 h2 => .fn F _ _ a' b' (LR.sub hs h1) (LR.sub hs h2)
 | _, _, .agg ds cs h => .agg _ cs (CR.sub hs h)
 | _, _, .tup ds vs h => .tup _ vs (LR.sub hs h)
 | _, _, .tab ks vs us b es cl hR hb hE h => .tab ks _ us b es cl (hs.keeps.sub _ hR) ((hs.keeps.same _ hR).trans hb) (hE.map (ko ks vs)) (fun m d hp => by
   rw [ko] at hp
   obtain ⟨d0, h0, rfl⟩ := Option.map_eq_some_iff.1 hp
   exact VR.sub hs (h m d0 h0))
 | _, _, .mh m b h => .mh m b (hs.obj _ _ h)
 | _, _, .fp t n v h => .fp t n v (Sh.K_keep hs.keeps h)
 | _, _, .ps n o p m l b cap h hp hl hm => .ps n o p m l b cap (hs.obj _ _ h) hp hl hm
theorem CR.sub {n : Nat} {g : Sub} (hs : But n g I I' w w') : ∀ {d : List DV} {v : List Value}, CR I w d v → CR I' w' (eb n g d) v
 | _, _, .nil => .nil
 | _, _, .one d r u cs h hu hr => .one _ _ u cs (VR.sub hs h) hu (CR.sub hs hr)
 | _, _, .arr s m xs r c cs h h1 hr => .arr s m xs _ c cs (Sh.K_keep hs.keeps h) h1 (CR.sub hs hr)
theorem LR.sub {n : Nat} {g : Sub} (hs : But n g I I' w w') : ∀ {d : List DV} {v : List Value}, LR I w d v → LR I' w' (eb n g d) v
 | _, _, .nil => .nil
 | _, _, .cons d r u vs h hr => .cons _ _ u vs (VR.sub hs h) (LR.sub hs hr)
end
end
def MR (I : In) (w : World) (n : Nat) (ks : List (List Int)) (vs : List DV) : Prop := ∃ b es clock val, I.ι n = some (.obj b) ∧ w.heap[b]? = some (.map es clock) ∧ TabE ks vs val es.toList ∧ ∀ m d, d8 ks vs m = some d → VR I w d (val m)
theorem MR.keep {I I' : In} {w w' : World} {n : Nat} {ks : List (List Int)} {vs : List DV} (hs : Same I I' w w') (h : MR I w n ks vs) (hb : ∀ b, I.ι n = some (.obj b) → w'.heap[b]? = w.heap[b]?) : MR I' w' n ks vs := by
 obtain ⟨b, es, cl, val, h1, h2, h3, h4⟩ := h
 exact ⟨b, es, cl, val, hs.obj _ _ h1, (hb b h1).trans h2, h3, fun m d hd => VR.keep hs (h4 m d hd)⟩
theorem MR.sub {I I' : In} {w w' : World} {n m : Nat} {g : Sub} {ks : List (List Int)} {vs : List DV} (hs : But m g I I' w w') (h : MR I w n ks vs) (hb : ∀ b, I.ι n = some (.obj b) → w'.heap[b]? = w.heap[b]?) : MR I' w' n ks (eb m g vs) := by
 obtain ⟨b, es, cl, val, h1, h2, h3, h4⟩ := h
 refine ⟨b, es, cl, val, hs.obj _ _ h1, (hb b h1).trans h2, h3.map (ko ks vs), fun j d hd => ?_⟩
 rw [ko] at hd
 obtain ⟨d0, h0, rfl⟩ := Option.map_eq_some_iff.1 hd
 exact VR.sub hs (h4 j d0 h0)
def MemR (R : RO) (w : World) (k : List EK) (x : fY k) (b : Nat) (B : Nat → Prop) : Prop := ∃ ι : Nat → Option Ent, ι 0 = some (.obj b) ∧
 (∃ c t, w.heap[b]? = some (.cells c t (0, 0)) ∧ CR ⟨ι, R⟩ w (hU nam0 1000 (k.map dB) (sJ k x)) c.toList) ∧
 (∀ n E s xs, el nam0 1000 (k.map dB) (sJ k x) (fun _ => none) n = some (.row E s xs) → ∃ v cs, ι n = some (.row s.sz v) ∧ w.ownsRow 0 E s.sz v xs.length cs ∧ (Sh.arr xs.length s).K R w xs cs) ∧
 (∀ n, n ≠ 0 → el nam0 1000 (k.map dB) (sJ k x) (fun _ => none) n = none → ι n = none) ∧
 (∀ n m e e' b, ι n = some e → ι m = some e' → e.has b → e'.has b → n = m) ∧
 (∀ n e b, ι n = some e → e.has b → B b) ∧ ∀ n t B', ι n ≠ some (.fam t B')
def FamR (I : In) (w : World) (n : Nat) (t : TypeId) (k : List EK) (xs : List (fY k)) : Prop := ∃ B, I.ι n = some (.fam t B) ∧ (I.R.fam t).length = xs.length ∧
 (∀ i x b, xs[i]? = some x → (I.R.fam t)[i]? = some b → MemR I.R w k x b (B i)) ∧ (∀ i j c, B i c → B j c → i = j) ∧ ∀ i c, B i c → i < xs.length
structure HR (I : In) (w : World) (H : Heap) : Prop where
 obj : ∀ n cs, H n = some (.obj cs) → ∃ b c t, I.ι n = some (.obj b) ∧ w.heap[b]? = some (.cells c t (0, 0)) ∧ CR I w cs c.toList
 row : ∀ n E s xs, H n = some (.row E s xs) → ∃ v cs, I.ι n = some (.row s.sz v) ∧ w.ownsRow 0 E s.sz v xs.length cs ∧ (Sh.arr xs.length s).K I.R w xs cs
 mp : ∀ n ks vs, H n = some (.mp ks vs) → MR I w n ks vs
 fam : ∀ n t k xs, H n = some (.fam t k xs) → FamR I w n t k xs
 dom : ∀ n, H n = none → I.ι n = none
 lt : ∀ n e b, I.ι n = some e → e.has b → b < w.heap.size ∧ ¬ I.R b
 inj : ∀ n m e e' b, I.ι n = some e → I.ι m = some e' → e.has b → e'.has b → n = m
 rlt : ∀ b, I.R b → b < w.heap.size
 one : ∀ n m t B B', I.ι n = some (.fam t B) → I.ι m = some (.fam t B') → n = m
structure Ext (I : In) (w : World) (I' : In) (w' : World) : Prop where
 obj : ∀ n b, I.ι n = some (.obj b) → I'.ι n = some (.obj b)
 ro : ∀ b, I.R b → I'.R b
 same : ∀ b, b < w.heap.size → (∀ n e, I.ι n = some e → ¬ e.has b) → w'.heap[b]? = w.heap[b]?
 own : ∀ n e b, I'.ι n = some e → e.has b → (∃ m e', I.ι m = some e' ∧ e'.has b) ∨ w.heap.size ≤ b
 newR : ∀ b, I'.R b → I.R b ∨ (∃ m e', I.ι m = some e' ∧ e'.has b) ∨ w.heap.size ≤ b
 size : w.heap.size ≤ w'.heap.size
 os : w'.os = w.os
 tape : w'.tape = w.tape
 output : w'.output = w.output
 fam : ∀ (t : TypeId) (i b : Nat), (I.R.fam t)[i]? = some b → (I'.R.fam t)[i]? = some b
 famE : ∀ t, (∀ n B, I.ι n ≠ some (.fam t B)) → I'.R.fam t = I.R.fam t ∧ ∀ n B, I'.ι n ≠ some (.fam t B)
theorem Ext.refl (I : In) (w : World) : Ext I w I w := ⟨fun _ _ h => h, fun _ h => h, fun _ _ _ => rfl, fun n e b h hb => .inl ⟨n, e, h, hb⟩, fun _ h => .inl h, ak _, rfl, rfl, rfl, fun _ _ _ h => h, fun _ h => ⟨rfl, h⟩⟩
theorem Ext.trans {I I1 I2 : In} {w w1 w2 : World} (h : Ext I w I1 w1) (k : Ext I1 w1 I2 w2) : Ext I w I2 w2 := by
 refine ⟨fun n b hb => k.obj n b (h.obj n b hb), fun b hb => k.ro b (h.ro b hb), fun b hb hn => ?_, fun n e b he hb => ?_, fun b hb => ?_, aT h.size k.size, k.os.trans h.os, k.tape.trans h.tape, k.output.trans h.output, fun t i b hb => k.fam t i b (h.fam t i b hb), fun t ht => ?_⟩
 ·rw [k.same b (bb hb h.size) (fun n e he heb => ?_), h.same b hb hn]
  rcases h.own n e b he heb with ⟨m, e', h1, h2⟩ | h1
  ·exact hn m e' h1 h2
  ·omega
 ·rcases k.own n e b he hb with ⟨m, e', h1, h2⟩ | h1
  ·exact h.own m e' b h1 h2
  ·exact .inr (aT h.size h1)
 ·rcases k.newR b hb with h1 | ⟨m, e', h1, h2⟩ | h1
  ·exact h.newR b h1
  ·exact .inr (h.own m e' b h1 h2)
  ·exact .inr (.inr (aT h.size h1))
 ·obtain ⟨h1, h2⟩ := h.famE t ht
  obtain ⟨h3, h4⟩ := k.famE t h2
  exact ⟨h3.trans h1, h4⟩
theorem Ext.keeps {I I' : In} {w w' : World} {H : Heap} (h : Ext I w I' w') (hH : HR I w H) : Keeps I.R I'.R w w' :=
 ⟨h.ro, fun b hb => h.same b (hH.rlt b hb) (fun n e he heb => (hH.lt n e b he heb).2 hb), h.fam⟩
theorem Ext.toObj {I I' : In} {w w' : World} {H : Heap} (h : Ext I w I' w') (hH : HR I w H) : ObjS I I' w w' := ⟨h.keeps hH, h.obj⟩
structure TR (I : In) (w : World) (T : List DV) (a : Act) : Prop where
  len : T.length ≤ a.tmps.size
  val : ∀ i, VR I w (T.getD i .undef) (a.tmps.getD i undef)
  df : a.defers = []
section
variable {P : Program} {I : In} {w : World} {T : List DV} {a : Act} {H : Heap}
theorem GJ {v : Value} (h : v.oneCell' = true) : v.cells = #[v] := by cases v <;> first | rfl | cases h
theorem xO (v : Value) : VR I w (zK v) v := by
  have hC : ∀ cs : List Value, (cs.all (·.oneCell')) = true → CR I w (cs.map .sc) cs := by
    intro cs
    induction cs with
    | nil => intro _; exact .nil
    | cons c r ih =>
      intro h
      simp only [bZ, aj] at h
      exact .one _ _ _ _ (.sc _ h.1) h.1 (ih h.2)
  have hL : ∀ cs : List Value, (cs.all (·.oneCell')) = true → LR I w (cs.map .sc) cs := by
    intro cs
    induction cs with
    | nil => intro _; exact .nil
    | cons c r ih =>
      intro h
      simp only [bZ, aj] at h
      exact .cons _ _ _ _ (.sc _ h.1) (ih h.2)
  cases v <;> first
    | exact .sc _ rfl
    | (simp only [zK]; split
       · rename_i h; first | exact .agg _ _ (hC _ h) | exact .tup _ _ (hL _ h)
       · exact .undef _)
theorem dP (hT : TR I w T a) (x : Operand) : VR I w (dj T x) (a.eval x) := by
  cases x with
  | tmp t => exact hT.val t
  | const v => exact xO v
  | global g => exact .undef _
  | func f => exact .fn _ _ _ _ _ .nil .nil
theorem TR.put (hT : TR I w T a) (d : Option Tmp) {v : DV} {u : Value} (h : VR I w v u) : TR I w (dF T d v) (a.put d u) := by
  cases d with
  | none => exact hT
  | some d =>
    refine ⟨by simp [dF, Act.put, hT.len], fun i => ?_, hT.df⟩
    simp only [dF, Act.put, ao, bY, b7, Array.getElem?_setIfInBounds]
    by_cases e : d = i
    · subst e
      by_cases hl : d < T.length
      · have hl2 : d < a.tmps.size := bb hl hT.len
        simp [hl, hl2, h]
      · simp only [hl, if_true, aC, Option.getD_none]
        exact .undef _
    · simp only [e, aC]
      have := hT.val i
      simpa [ao, b7] using this
structure Rows (I I' : In) : Prop where
  row : ∀ n sz v, I.ι n = some (.row sz v) → I'.ι n = some (.row sz v)
def OW (I : In) (w : World) (v : DV) : Next → Prop
  | .value u => VR I w v u
  | .skip => v = .undef
  | _ => False
def Done (P : Program) (o : Oper) (a : Act) (I : In) (w : World) (H : Heap) (v : DV) (act : fF) : Prop :=
  ∃ I' w' n, (execOp a.eval o).run P w = .ok n w' ∧ Ext I w I' w' ∧ Rows I I' ∧ HR I' w' (H.act act) ∧ OW I' w' v n
theorem Done.pure {o : Oper} {v : DV} {u : Value} (hH : HR I w H) (hr : (execOp a.eval o).run P w = .ok (.value u) w) (h : VR I w v u) : Done P o a I w H v none :=
  ⟨I, w, _, hr, Ext.refl I w, ⟨fun _ _ _ h => h⟩, hH, h⟩
theorem jA {s : Sem Value} {u : Value} {w' : World} (h : s.run P w = .ok u w') : ((do pure (Next.value (← s)) : Sem Next)).run P w = .ok (.value u) w' := by simp [Sem.run_bind, h]
theorem GL {o : Oper} {x : Operand} (ho : o.op = .move x) : (execOp a.eval o).run P w = .ok (.value (a.eval x)) w := by unfold execOp; rw [ho]; rfl
theorem D0 {o : Oper} {x : Operand} (ho : o.op = .assign x) : (execOp a.eval o).run P w = .ok (.value (a.eval x)) w := by unfold execOp; rw [ho]; rfl
theorem qC {t : TypeId} (h : fJ P t = true) : ∃ d, P.underlying t = some d ∧ d.isRow = true := by
  unfold fJ at h
  split at h
  · rename_i fs hu; exact ⟨_, hu, rfl⟩
  · rename_i m e hu; exact ⟨_, hu, rfl⟩
  · cases h
theorem Ep {t : TypeId} {d : TypeDesc} (h : P.underlying t = some d) : ∃ i, P.info? t = some i := by
  unfold Program.underlying at h
  cases hi : P.info? t with
  | none => rw [hi] at h; cases h
  | some i => exact ⟨i, rfl⟩
theorem sT {t : TypeId} {d : TypeDesc} (h : P.underlying t = some d) (w : World) : (isAgg t).run P w = .ok d.isRow w := by
  unfold isAgg
  rw [Sem.run_bind, run_underlying h w]
  cases d <;> rfl
theorem fO {t : TypeId} {d : TypeDesc} (h : P.underlying t = some d) : fJ P t = d.isRow := by
  unfold fJ
  rw [h]
  cases d <;> rfl
theorem pg {t : TypeId} {d : TypeDesc} (h : P.underlying t = some d) (w : World) : (sizeOf t).run P w = .ok (dI P t) w := by
  obtain ⟨i, hi⟩ := Ep h
  simp [sizeOf, typeInfo, hi, dI]
theorem n7 {t : TypeId} {ad : Addr} {cs : List Value} {its : List DV} {v : DV} (hl : cs.length = dI P t) (hc : ∀ j u, cs[j]? = some u → w.cell? (ad.add j) = some u) (hv : ne P t its = some v) (hC : CR I w its cs) :
    ∃ u, (loadVar t ad).run P w = .ok u w ∧ VR I w v u := by
  rcases Eo hv hC with ⟨h1, h2⟩ | ⟨h1, h2, u, rfl, h3, h4⟩
  · obtain ⟨d, hd, hr⟩ := qC h1
    refine ⟨_, ?_, h2⟩
    have hl2 := run_loadCells_list (P := P) w ad cs hc
    simp [loadVar, Sem.run_bind, sT hd, hr, pg hd, ← hl, hl2]
  · obtain ⟨d, hd⟩ := Option.isSome_iff_exists.1 h2
    refine ⟨u, ?_, h3⟩
    have hr : d.isRow = false := by rw [← fO hd]; exact h1
    have h0 := hc 0 u rfl
    rw [show ad.add 0 = ad from rfl] at h0
    simp [loadVar, Sem.run_bind, sT hd, hr, h0]
theorem qD {b j : Nat} {c : Array Value} {t : TypeId} {fr : Nat × Nat} (h : w.heap[b]? = some (.cells c t fr)) : w.cell? ⟨b, j, none⟩ = c.toList[j]? := by
  simp [World.cell?, h]
theorem GM {o : Oper} {t : TypeId} {x : Operand} {u : Value} {ad : Addr} (ho : o.op = .load t x) (hx : a.eval x = .pointer (some ad)) (h : (loadVar t ad).run P w = .ok u w) : (execOp a.eval o).run P w = .ok (.value u) w := by
  unfold execOp
  rw [ho]
  refine jA ?_
  rw [hx]
  simp [Instr.loadAt, Instr.sureAddr, Sem.run_bind, h]
theorem kC {n : Nat} {E : TypeId} {s : Sh} {xs : List s.T} (hH : HR I w H) (h : H n = some (.row E s xs)) {sz b len cap : Nat} (hi : I.ι n = some (.row sz (.slice (some ⟨b, 0, none⟩) len cap))) :
    sz = s.sz ∧ len = xs.length ∧ ∃ cs, (Sh.arr xs.length s).K I.R w xs cs ∧ w.ownsRow 0 E s.sz (.slice (some ⟨b, 0, none⟩) len cap) xs.length cs ∧ ∀ j u, cs[j]? = some u → w.cell? ⟨b, j, none⟩ = some u := by
  obtain ⟨v, cs, h1, h2, h3⟩ := hH.row n E s xs h
  rw [hi] at h1
  simp only [ab, Ent.row.injEq] at h1
  obtain ⟨rfl, rfl⟩ := h1
  have hlen : len = xs.length := by
    rcases h2.2 with ⟨e, _⟩ | ⟨g, c, cur, e, _⟩
    · cases e
    · simp only [Value.slice.injEq] at e
      exact e.2.1
  subst hlen
  refine ⟨rfl, rfl, cs, h3, h2, fun j u hu => ?_⟩
  have hj : j < xs.length * s.sz := by
    have := (List.getElem?_eq_some_iff.1 hu).1
    rw [h2.1] at this
    exact this
  rw [h2.cellAt j hj]
  exact hu
theorem Er {t : TypeId} {d v : DV} {x' : Value} (hx : VR I w d x') (hH : HR I w H) (h : la P t H d = some v) : ∃ ad u, x' = .pointer (some ad) ∧ (loadVar t ad).run P w = .ok u w ∧ VR I w v u := by
  cases hx with
  | ptr n off p b hb hp =>
    simp only [la] at h
    split at h
    · rename_i cs hcs
      split at h
      · rename_i its hits
        split at h
        · rename_i its' hits'
          obtain ⟨b', c, t', e1, e2, e3⟩ := hH.obj n cs hcs
          rw [hb] at e1
          simp only [ab, Ent.obj.injEq] at e1
          subst e1
          obtain ⟨c1, k1, k2⟩ := pJ hits (show lJ (.off off :: p) from hp) e3
          obtain ⟨d1, d2, rfl, hl, k3⟩ := lV hits' k1
          obtain ⟨u, g1, g2⟩ := n7 (ad := ⟨b, off + dN p, none⟩) hl (fun j u hu => by
            rw [Addr.add_mid, qD e2]
            have := k2 j u (by rw [aN (List.getElem?_eq_some_iff.1 hu).1]; exact hu)
            simp only [dN] at this
            exact this) h k3
          exact ⟨_, u, rfl, g1, g2⟩
        · cases h
      · cases h
    · cases h
  | rp n sz i p b len cap hb hi hp =>
    simp only [la] at h
    split at h
    · rename_i E s xs hrow
      split at h
      · rename_i hz
        split at h
        · rename_i its hits
          split at h
          · rename_i its' hits'
            obtain ⟨e1, e2, cs, e3, e4, e5⟩ := kC hH hrow hb
            subst e2
            have hx2 := e3.2.2 i _ (getD_some xs i s.dflt hi)
            obtain ⟨c1, k1, k2⟩ := pJ hits hp (Sh.enc_ok (I := I) hx2)
            obtain ⟨d1, d2, rfl, hl, k3⟩ := lV hits' k1
            obtain ⟨u, g1, g2⟩ := n7 (ad := ⟨b, i * sz + dN p, none⟩) hl (fun j u hu => by
              rw [Addr.add_mid]
              have h3 := k2 j u (by rw [aN (List.getElem?_eq_some_iff.1 hu).1]; exact hu)
              rw [aP] at h3
              split at h3
              · rw [aV] at h3
                refine e5 _ u ?_
                rw [← h3, e1]
                congr 1
                omega
              · cases h3) h k3
            exact ⟨_, u, rfl, g1, g2⟩
          · cases h
        · cases h
      · cases h
    · cases h
  | pi its ad cs h0 hR him hC hc =>
    simp only [la] at h
    split at h
    · rename_i its' hits'
      obtain ⟨d1, d2, rfl, hl, k3⟩ := lV hits' hC
      obtain ⟨u, g1, g2⟩ := n7 (ad := ad) hl (fun j u hu => hc j u (by rw [aN (List.getElem?_eq_some_iff.1 hu).1]; exact hu)) h k3
      exact ⟨_, u, rfl, g1, g2⟩
    · cases h
  | _ => simp [la] at h
theorem LH {o : Oper} {t : TypeId} {x : Operand} {v : DV} (ho : o.op = .load t x) (hT : TR I w T a) (hH : HR I w H) (h : la P t H (dj T x) = some v) : Done P o a I w H v none := by
  obtain ⟨ad, u, h1, h2, h3⟩ := Er (dP hT x) hH h
  exact Done.pure hH (GM ho h1 h2) h3
end
section
variable {P : Program} {I : In} {w : World} {T : List DV} {a : Act} {H : Heap} {α : Type}
theorem VR.sc_eq {v u : Value} (h : VR I w (.sc v) u) : u = v := by cases h; rfl
def iW (P : Program) (I : In) (w : World) (s : Sem Value) (v : DV) : Prop := ∃ u, s.run P w = .ok u w ∧ VR I w v u
theorem Jg {c x y : DV} {c' x' y' : Value} {k : DV → Option α} {r : α} (hc : VR I w c c') (hx : VR I w x x') (hy : VR I w y y') (h : oQ c x y k = some r) :
  ∃ v, k v = some r ∧ iW P I w (do pure (if ← asBool c' then x' else y')) v := by
 cases hc with
 | sc _ hv =>
  cases c' with
  | bool t =>
   have gen : ∀ h' : (if t = true then k x else k y) = some r, ∃ v, k v = some r ∧ iW P I w (do pure (if ← asBool (.bool t) then x' else y')) v := by
    intro h'
    cases t
    ·exact ⟨y, by simpa using h', y', by simp [asBool], hy⟩
    ·exact ⟨x, by simpa using h', x', by simp [asBool], hx⟩
   simp only [oQ] at h
   split at h
   ·cases hx with | sc _ _ => cases hy with | sc _ _ =>
     exact ⟨_, h, _, rfl, by cases t <;> exact .sc _ rfl⟩
   ·split at h
    ·rename_i hk
     subst hk
     cases hx with | sc _ _ => cases hy with | sc _ _ =>
      exact ⟨_, h, _, rfl, by cases t <;> exact .sc _ rfl⟩
    ·cases h
   ·exact gen h
  | _ => simp [oQ] at h
 | _ => simp [oQ] at h
theorem vL (t : TypeId) : dI P t = P.cellsOf t := by
 unfold dI Program.cellsOf
 cases P.info? t <;> rfl
def nl (P : Program) (t : TypeId) (cs : List Value) : Value := if fJ P t then .agg cs.toArray else cs.headD undef
theorem kD {t : TypeId} {d : TypeDesc} {cs : List Value} {o : Nat} (hu : P.underlying t = some d) (hl : o + dI P t ≤ cs.length) (h1 : fJ P t = false → dI P t = 1) :
  (part t cs.toArray o).run P w = .ok (nl P t ((cs.drop o).take (dI P t))) w := by
 unfold part nl
 rw [Sem.run_bind, sT hu, Result.andThen_ok, fO hu]
 cases hr : d.isRow with
 | true =>
  simp only [if_true, Sem.run_bind, pg hu, Result.andThen_ok, Sem.run_pure]
  congr 2
  apply Array.ext'
  simp [List.extract_eq_take_drop]
 | false =>
  have h2 := h1 (by rw [fO hu, hr])
  have h3 : o < cs.length := by omega
  have h4 : cs[o]? = some cs[o] := ax h3
  simp only [aL, aC, List.getElem?_toArray, h4, Sem.run_pure]
  congr 1
  rw [h2, List.headD_eq_head?_getD, List.head?_take, if_neg (by omega), List.head?_drop, h4]
  rfl
theorem oU : ∀ {d : Nat} {t : TypeId} {s : Sh}, pe P d t s = true → dI P t = s.sz ∧ 0 < s.sz ∧ ∃ D, P.underlying t = some D ∧ (D.isRow = false → s.sz = 1)
 | 0, _, _, h => by cases h
 | d + 1, t, s, h => by
  simp only [pe, aj, ai, av] at h
  obtain ⟨⟨h1, h0⟩, h2⟩ := h
  refine ⟨h1, h0, ?_⟩
  split at h2 <;> first
   | (rename_i hu; exact ⟨_, hu, fun _ => rfl⟩)
   | (rename_i hu; exact ⟨_, hu, fun h => by cases h⟩)
   | cases h2
theorem GN {R : RO} {d m : Nat} (ih : ∀ {t : TypeId} {s : Sh} {x y : s.T} {cs ds : List Value}, pe P d t s = true → s.K R w x cs → s.K R w y ds → (Op.equalIn m t (nl P t cs) (nl P t ds)).run P w = .ok (s.eqT x y) w) :
  ∀ {fs : List Field} {o : Nat} {s : Sh} {x y : s.T} {cs ds : List Value}, wq (pe P d) P o fs s = true → s.K R w x (cs.drop o) → s.K R w y (ds.drop o) →
  (Op.eqFields m cs.toArray ds.toArray fs).run P w = .ok (s.eqT x y) w
 | [], _, _, _, _, _, _, h, _, _ => by simp [wq] at h
 | [g], o, s, x, y, cs, ds, h, hx, hy => by
  have h' : g.name ≠ "_" ∧ g.offset = o ∧ pe P d g.type s = true := by
   cases s <;> simpa [wq, and_assoc] using h
  obtain ⟨h1, h2, h3⟩ := h'
  obtain ⟨z1, z0, D, z2, z3⟩ := oU h3
  have l1 := Sh.K_len hx
  have l2 := Sh.K_len hy
  have hm : fJ P g.type = false → dI P g.type = 1 := fun hh => by rw [z1]; exact z3 (by rw [← fO z2]; exact hh)
  simp only [cf] at l1 l2
  simp only [Op.eqFields, ne_eq, h1, not_false_eq_true, if_true, Sem.run_bind]
  rw [h2, kD (cs := cs) z2 (by omega) hm, Result.andThen_ok, kD (cs := ds) z2 (by omega) hm, Result.andThen_ok]
  have e1 : (cs.drop o).take (dI P g.type) = cs.drop o := aR (by rw [cf]; omega)
  have e2 : (ds.drop o).take (dI P g.type) = ds.drop o := aR (by rw [cf]; omega)
  rw [e1, e2, ih h3 hx hy, Result.andThen_ok]
  cases s.eqT x y <;> simp [Op.eqFields]
 | g :: g2 :: r, o, s, x, y, cs, ds, h, hx, hy => by
  cases s with
  | pair p q =>
   simp only [wq, aj, aw, ne_eq, ai] at h
   obtain ⟨⟨⟨h1, h2⟩, h3⟩, h4⟩ := h
   obtain ⟨z1, z0, D, z2, z3⟩ := oU h3
   obtain ⟨c1, c2, e1, k1, k2⟩ := hx
   obtain ⟨d1, d2, e2, m1, m2⟩ := hy
   have lc := Sh.K_len k1
   have ld := Sh.K_len m1
   have hm : fJ P g.type = false → dI P g.type = 1 := fun hh => by rw [z1]; exact z3 (by rw [← fO z2]; exact hh)
   have n1 : cs.length - o = c1.length + c2.length := by rw [← cf, e1, aF]
   have n2 : ds.length - o = d1.length + d2.length := by rw [← cf, e2, aF]
   have t1 : (cs.drop o).take (dI P g.type) = c1 := by rw [e1, z1, ← lc]; simp
   have t2 : (ds.drop o).take (dI P g.type) = d1 := by rw [e2, z1, ← ld]; simp
   have u1 : cs.drop (o + p.sz) = c2 := by rw [← bv, e1, ← lc]; simp
   have u2 : ds.drop (o + p.sz) = d2 := by rw [← bv, e2, ← ld]; simp
   have ih2 := GN ih (fs := g2 :: r) (o := o + p.sz) (cs := cs) (ds := ds) h4 (by rw [u1]; exact k2) (by rw [u2]; exact m2)
   rw [Op.eqFields]
   simp only [ne_eq, h1, not_false_eq_true, if_true, Sem.run_bind]
   rw [h2, kD (cs := cs) z2 (by omega) hm, Result.andThen_ok, kD (cs := ds) z2 (by omega) hm, Result.andThen_ok, t1, t2, ih h3 k1 m1, Result.andThen_ok]
   simp only [Sh.eqT]
   cases p.eqT x.1 y.1
   ·simp
   ·simpa using ih2
  | _ => simp [wq] at h
theorem GO {R : RO} {m : Nat} {e : TypeId} {s : Sh} {n : Nat} {xs ys : List s.T} {cs ds : List Value} (hx : (Sh.arr n s).K R w xs cs) (hy : (Sh.arr n s).K R w ys ds) (z1 : dI P e = s.sz) {D : TypeDesc} (z2 : P.underlying e = some D) (hm : fJ P e = false → dI P e = 1)
  (ih : ∀ {x y : s.T} {cs ds : List Value}, s.K R w x cs → s.K R w y ds → (Op.equalIn m e (nl P e cs) (nl P e ds)).run P w = .ok (s.eqT x y) w) :
  ∀ is : List Nat, (∀ i ∈ is, i < n) → (Op.eqItems m e (P.cellsOf e) cs.toArray ds.toArray is).run P w = .ok (is.all fun i => s.eqT (xs.getD i s.dflt) (ys.getD i s.dflt)) w
 | [], _ => by simp [Op.eqItems]
 | i :: is, hi => by
  have h1 := hi i (aD ..)
  have ih2 := GO hx hy z1 z2 hm ih is (fun j hj => hi j (ay _ hj))
  have hle : i * s.sz + s.sz ≤ n * s.sz := by rw [← aK]; exact aS _ h1
  have g1 := hx.2.2 i _ (getD_some xs i s.dflt (by rw [hx.1]; exact h1))
  have g2 := hy.2.2 i _ (getD_some ys i s.dflt (by rw [hy.1]; exact h1))
  have l1 := hx.2.1
  have l2 := hy.2.1
  rw [Op.eqItems]
  simp only [Sem.run_bind]
  rw [← vL, z1, kD (cs := cs) z2 (by omega) hm, Result.andThen_ok, kD (cs := ds) z2 (by omega) hm, Result.andThen_ok, z1, ih g1 g2, Result.andThen_ok]
  simp only [bZ]
  cases s.eqT (xs.getD i s.dflt) (ys.getD i s.dflt)
  ·simp
  ·rw [← vL, z1] at ih2
   simpa using ih2
theorem BN {R : RO} : ∀ {d m : Nat} {t : TypeId} {s : Sh} {x y : s.T} {cs ds : List Value}, d ≤ m → pe P d t s = true → s.K R w x cs → s.K R w y ds → (Op.equalIn m t (nl P t cs) (nl P t ds)).run P w = .ok (s.eqT x y) w
 | 0, _, _, _, _, _, _, _, _, h, _, _ => by cases h
 | d + 1, 0, _, _, _, _, _, _, hm, _, _, _ => by omega
 | d + 1, m + 1, t, s, x, y, cs, ds, hm, h, hx, hy => by
  simp only [pe, aj, ai, av] at h
  obtain ⟨⟨h1, h0⟩, h2⟩ := h
  split at h2
  ·rename_i k k' hu
   simp only [ai] at h2
   subst h2
   cases hx
   cases hy
   have : fJ P t = false := by rw [fO hu]
   simp only [nl, this, aL, aC, List.headD_cons]
   exact run_equalIn_int w m t _ _ _ _ hu
  ·rename_i hu
   cases hx
   cases hy
   have : fJ P t = false := by rw [fO hu]
   simp only [nl, this, aL, aC, List.headD_cons]
   exact run_equalIn_bool' w m t _ _ hu
  ·rename_i hu
   cases hx
   cases hy
   have : fJ P t = false := by rw [fO hu]
   simp only [nl, this, aL, aC, List.headD_cons]
   exact run_equalIn_string w m t _ _ hu
  ·rename_i fs hu
   simp only [aj, bT] at h2
   have : fJ P t = true := by rw [fO hu]
   have hf : P.fieldsOf t = fs := by simp [Program.fieldsOf, hu]
   simp only [nl, this, if_true]
   rw [run_equalIn_struct w m t _ _ (by rw [hf]; exact hu) h2.1, hf]
   exact GN (fun hc k1 k2 => BN (by omega) hc k1 k2) h2.2 (by simpa using hx) (by simpa using hy)
  ·rename_i n e n' s' hu
   simp only [aj, ai] at h2
   obtain ⟨rfl, h3⟩ := h2
   have : fJ P t = true := by rw [fO hu]
   obtain ⟨z1, z0, D, z2, z3⟩ := oU h3
   obtain ⟨i, hi⟩ := Ep z2
   simp only [nl, this, if_true]
   rw [run_equalIn_array w m _ _ hu hi]
   exact GO hx hy z1 z2 (fun hh => by rw [z1]; exact z3 (by rw [← fO z2]; exact hh)) (fun k1 k2 => BN (by omega) h3 k1 k2) _ (fun i hi => bg.1 hi)
  ·cases h2
end
section
variable {P : Program} {I : In} {w : World} {T : List DV} {a : Act} {H : Heap} {α : Type}
theorem xP {s : Sem Value} {v : Value} : fa P s = some v → s.run P w = .ok v w := by
  induction s with
  | pure b => intro h; simp only [fa, ab] at h; subst h; rfl
  | program k ih => intro h; simp only [fa] at h; exact ih P h
  | _ => intro h; cases h
theorem BO {β : Type} {c : Prop} [Decidable c] {x y r : β} (hx : x = r) (hy : y = r) : (if c then x else y) = r := by split <;> assumption
theorem fi {op : BinOp} {t : TypeId} {x y : Operand} {u v : Value} (h : ∀ cs ds, u = .agg cs → v = .agg ds → False) (h2 : u ≠ .nilIface) : (eqGuard op t x y u v).run P w = .ok () w := by
  unfold eqGuard
  rw [Sem.run_ite]
  refine BO rfl ?_
  split
  · exact (h2 rfl).elim
  · exact (h _ _ rfl rfl).elim
  · rfl
theorem vM {op : BinOp} {t : TypeId} {x y : Operand} {cs ds : Array Value} (h : P.eqGuardType P.depth t = false) : (eqGuard op t x y (.agg cs) (.agg ds)).run P w = .ok () w := by
  unfold eqGuard
  rw [Sem.run_ite]
  exact BO rfl (by simp [Sem.run_bind, h])
theorem LI {op : BinOp} {t : TypeId} {ka kb : IntKind} {x y : Int} {v : Value} (h : fa P (binOp op t (.int ka x) (.int kb y)) = some v) : v.oneCell' = true := by
  have hi : ∀ {c : Prop} [Decidable c] {s s' : Sem Value}, fa P (if c then s else s') = some v → (fa P s = some v ∨ fa P s' = some v) := by
    intro c _ s s' h
    split at h
    · exact .inl h
    · exact .inr h
  have hn : ∀ {x : String}, fa P (stuck x : Sem Value) = some v → v.oneCell' = true := fun h => by cases h
  cases op <;> simp only [binOp] at h <;> first
    | (rcases hi h with h | h
       · cases h
       · first
         | (simp only [Op.intArith, Op.intCmp, pure, fa, ab] at h; subst h; rfl)
         | (simp only [Op.intBits, pure, fa, ab] at h; subst h; rfl)
         | (simp only [Op.intDiv] at h
            rcases hi h with h | h
            · cases h
            · simp only [pure, fa, ab] at h; subst h; rfl))
    | (simp only [Op.shift] at h
       rcases hi h with h | h
       · cases h
       · simp only [pure, fa, ab] at h; subst h; rfl)
theorem LJ {op : BinOp} {x y : ByteArray} {v : Value} (h : fa P (Op.stringOp op x y) = some v) : v.oneCell' = true := by
  cases op <;> simp only [Op.stringOp] at h <;> first
    | (simp only [pure, fa, ab] at h; subst h; rfl)
    | (split at h
       · cases h
       · simp only [pure, fa, ab] at h; subst h; rfl)
    | cases h
theorem xQ {t e : TypeId} (hu : P.underlying t = some (.pointer e)) (q : Addr) : (Op.equal t (.pointer (some q)) (.pointer none)).run P w = .ok false w := by
  unfold Op.equal Op.maxDepth
  rw [Op.equalIn, Sem.run_bind, run_underlying hu]
  rfl
theorem GP {t e : TypeId} (hu : P.underlying t = some (.pointer e)) : (Op.equal t (.pointer none) (.pointer none)).run P w = .ok true w := by
  unfold Op.equal Op.maxDepth
  rw [Op.equalIn, Sem.run_bind, run_underlying hu]
  rfl
theorem nN {op : BinOp} {t : TypeId} {x y : Operand} {q : Option Addr} {c : Bool} {k : DV → Option α} {r : α}
    (h : (match op with
    | .eql => match P.underlying t with | some (.pointer _) => k (.sc (.bool c)) | _ => none
    | .neq => match P.underlying t with | some (.pointer _) => k (.sc (.bool !c)) | _ => none
    | _ => none) = some r) (p2 : Option Addr) (hg : (eqGuard op t x y (.pointer q) (.pointer p2)).run P w = .ok () w) (he : ∀ e, P.underlying t = some (.pointer e) → (Op.equal t (.pointer q) (.pointer p2)).run P w = .ok c w) :
    ∃ z, k z = some r ∧ iW P I w (do eqGuard op t x y (.pointer q) (.pointer p2); binOp op t (.pointer q) (.pointer p2)) z := by
  split at h
  · split at h
    · rename_i e' hu
      refine ⟨_, h, _, ?_, .sc _ rfl⟩
      rw [Sem.run_bind, hg]
      show ((do pure (.bool (← Op.equal t (.pointer q) (.pointer p2))) : Sem Value)).run P w = _
      rw [Sem.run_bind, he _ hu]
      rfl
    · cases h
  · split at h
    · rename_i e' hu
      refine ⟨_, h, _, ?_, .sc _ rfl⟩
      rw [Sem.run_bind, hg]
      show ((do pure (.bool (!(← Op.equal t (.pointer q) (.pointer p2)))) : Sem Value)).run P w = _
      rw [Sem.run_bind, he _ hu]
      rfl
    · cases h
  · cases h
theorem LK {op : BinOp} {t : TypeId} {x y : Operand} {d e : DV} {u v : Value} {k : DV → Option α} {r : α} (hd : VR I w d u) (he : VR I w e v) (h : y0 P op t d e k = some r) :
    ∃ z, k z = some r ∧ iW P I w (do eqGuard op t x y u v; binOp op t u v) z := by
  have guard : ∀ {s : Sem Value} {z : DV}, (eqGuard op t x y u v).run P w = .ok () w → iW P I w s z → binOp op t u v = s → iW P I w (do eqGuard op t x y u v; binOp op t u v) z := by
    rintro s z h1 ⟨q, h2, h3⟩ rfl
    exact ⟨q, by rw [Sem.run_bind, h1]; exact h2, h3⟩
  unfold y0 at h
  split at h
  · rename_i ka m kb n
    obtain rfl := hd.sc_eq
    obtain rfl := he.sc_eq
    have hg : (eqGuard op t x y (.int ka m) (.int kb n)).run P w = .ok () w := fi (fun _ _ h _ => by cases h) (by simp)
    split at h
    · split at h
      · rename_i hk
        subst hk
        split at h
        · cases h
        · rename_i hn
          refine ⟨_, h, guard hg ⟨_, ?_, .sc _ rfl⟩ rfl⟩
          have : n ≠ 0 := by simpa using hn
          simp [binOp, Op.intDiv, this]
      · cases h
    · split at h
      · rename_i hk
        subst hk
        split at h
        · cases h
        · rename_i hn
          refine ⟨_, h, guard hg ⟨_, ?_, .sc _ rfl⟩ rfl⟩
          have : n ≠ 0 := by simpa using hn
          simp [binOp, Op.intDiv, this]
      · cases h
    · split at h
      · cases h
      · rename_i hn
        refine ⟨_, h, guard hg ⟨_, ?_, .sc _ rfl⟩ rfl⟩
        have : ¬ n < 0 := by simpa using hn
        simp [binOp, Op.shift, this]
    · split at h
      · cases h
      · rename_i hn
        refine ⟨_, h, guard hg ⟨_, ?_, .sc _ rfl⟩ rfl⟩
        have : ¬ n < 0 := by simpa using hn
        simp [binOp, Op.shift, this]
    · split at h
      · rename_i z hz
        exact ⟨_, h, guard hg ⟨_, xP hz, .sc _ (LI hz)⟩ rfl⟩
      · cases h
  · rename_i m n
    obtain rfl := hd.sc_eq
    obtain rfl := he.sc_eq
    have hg : (eqGuard op t x y (.string m) (.string n)).run P w = .ok () w := fi (fun _ _ h _ => by cases h) (by simp)
    split at h
    · split at h
      · rename_i hn
        refine ⟨_, h, guard hg ⟨_, ?_, .sc _ rfl⟩ rfl⟩
        have hn : m.size + n.size ≤ 140737488351232 := by simpa using hn
        have : ¬ ((m.size + n.size : Nat) : Int) > IntKind.i64.max := by
          have : IntKind.max .i64 = 9223372036854775807 := by decide
          omega
        show (Op.stringOp .add m n).run P w = _
        unfold Op.stringOp
        simp only [if_neg this]
        rfl
      · cases h
    · split at h
      · rename_i z hz
        have hb : binOp op t (.string m) (.string n) = Op.stringOp op m n := by cases op <;> rfl
        exact ⟨_, h, guard hg ⟨_, xP hz, .sc _ (LJ hz)⟩ hb⟩
      · cases h
  · rename_i m n
    obtain rfl := hd.sc_eq
    obtain rfl := he.sc_eq
    have hg : (eqGuard op t x y (.bool m) (.bool n)).run P w = .ok () w := fi (fun _ _ h _ => by cases h) (by simp)
    split at h
    · split at h
      · rename_i hu
        refine ⟨_, h, guard hg ⟨_, ?_, .sc _ rfl⟩ rfl⟩
        simp [binOp, Sem.run_bind, Op.equal, Op.maxDepth, run_equalIn_bool' w _ t m n hu]
      · cases h
    · split at h
      · rename_i hu
        refine ⟨_, h, guard hg ⟨_, ?_, .sc _ rfl⟩ rfl⟩
        simp [binOp, Sem.run_bind, Op.equal, Op.maxDepth, run_equalIn_bool' w _ t m n hu, bne]
      · cases h
    · cases h
  · rename_i xs ys
    have agg : ∀ {c : Bool}, Lp P t xs ys = some c → ∃ cs ds, u = .agg cs ∧ v = .agg ds ∧ P.eqGuardType P.depth t = false ∧ (Op.equal t u v).run P w = .ok c w := by
      intro c hc
      unfold Lp at hc
      split at hc
      · rename_i s hs
        split at hc
        · rename_i hcm
          simp only [aj, bT] at hcm
          split at hc
          · rename_i x1 y1 hx1 hy1
            simp only [ab] at hc
            subst hc
            cases hd with | agg _ cs hcs => cases he with | agg _ ds hds =>
              obtain ⟨c1, c2, e1, k1, k2⟩ := Sh.dec_ok hx1 hcs
              obtain ⟨d1, d2, e2, m1, m2⟩ := Sh.dec_ok hy1 hds
              cases k2
              cases m2
              rw [aG] at e1 e2
              obtain ⟨z1, z0, D, z2, z3⟩ := oU hcm.1.2
              refine ⟨cs, ds, rfl, rfl, hcm.2, ?_⟩
              have hmu := hcm.1.1
              have := BN (P := P) (w := w) (m := Op.maxDepth) (by decide) hcm.1.2 (e1 ▸ k1) (e2 ▸ m1)
              simpa [nl, hmu, Op.equal] using this
          · cases hc
        · cases hc
      · cases hc
    split at h
    · split at h
      · rename_i c hc
        obtain ⟨cs, ds, rfl, rfl, g1, g2⟩ := agg hc
        refine ⟨_, h, guard (vM g1) ⟨_, ?_, .sc _ rfl⟩ rfl⟩
        simp [binOp, Sem.run_bind, g2]
      · cases h
    · split at h
      · rename_i c hc
        obtain ⟨cs, ds, rfl, rfl, g1, g2⟩ := agg hc
        refine ⟨_, h, guard (vM g1) ⟨_, ?_, .sc _ rfl⟩ rfl⟩
        simp [binOp, Sem.run_bind, g2]
      · cases h
    · cases h
  · cases hd with | ptr n _ _ b hb hp =>
      obtain rfl := he.sc_eq
      exact nN h _ (fi (fun _ _ h _ => by cases h) (by simp)) (fun e hu => xQ hu _)
  · cases hd with | rp n sz i _ b len cap hb hi hp =>
      obtain rfl := he.sc_eq
      exact nN h _ (fi (fun _ _ h _ => by cases h) (by simp)) (fun e hu => xQ hu _)
  · cases hd with | pi _ ad cs h0 hR him hC hc =>
      obtain rfl := he.sc_eq
      exact nN (c := false) h _ (fi (fun _ _ h _ => by cases h) (by simp)) (fun e hu => xQ hu _)
  · rename_i t' n
    cases hd with | fp _ _ _ hk =>
    obtain rfl := he.sc_eq
    rcases hk with ⟨rfl, e⟩ | ⟨m, b, rfl, _, e⟩
    · simp only [bm, aX] at e
      subst e
      exact nN (c := true) h _ (fi (fun _ _ h _ => by cases h) (by simp)) (fun e hu => GP hu)
    · simp only [bm, aX] at e
      subst e
      exact nN (c := false) h _ (fi (fun _ _ h _ => by cases h) (by simp)) (fun e hu => xQ hu _)
  · obtain rfl := hd.sc_eq
    obtain rfl := he.sc_eq
    exact nN h _ (fi (fun _ _ h _ => by cases h) (by simp)) (fun e hu => GP hu)
  · cases h
end
section
variable {P : Program} {I : In} {w : World} {T : List DV} {a : Act} {H : Heap} {α : Type}
theorem jB {i : Int} {n : Nat} (h : sL i n = true) : 0 ≤ i ∧ i < (n : Int) ∧ i.toNat < n := by
 simp only [sL, aj, av] at h
 omega
theorem MA (s : ByteArray) (i : Int) (h1 : i.toNat < s.size) : bt s i = ((s[i.toNat]'h1).toNat : Int) := by
 unfold bt
 have : s.data.toList.getD i.toNat 0 = s[i.toNat]'h1 := by
  rw [ao, ax (by simpa using h1)]
  rfl
 rw [this]
theorem A7 {t : TypeId} {s : ByteArray} {k : IntKind} {i : Int} (hu : P.underlying t = some .string) (h0 : 0 ≤ i) (h1 : i.toNat < s.size) : (Instr.index t (.string s) (.int k i)).run P w = .ok (.int .u8 (bt s i)) w := by
 rw [MA s i h1]
 simp [Instr.index, Sem.run_bind, asIntOf, run_underlying hu, if_pos h0, ByteArray.getElem?_lt' s _ h1]
theorem wt {t : TypeId} {its : List DV} {cs : List Value} {o : Nat} {v : DV} (hC : CR I w its ((cs.drop o).take (dI P t))) (hle : o + dI P t ≤ cs.length) (hv : ne P t its = some v) : iW P I w (part t cs.toArray o) v := by
 rcases Eo hv hC with ⟨h1, h2⟩ | ⟨h1, h2, u, he, h3, h4⟩
 ·obtain ⟨d, hd, hr⟩ := qC h1
  refine ⟨_, kD hd hle (fun h => by rw [h1] at h; cases h), ?_⟩
  simpa [nl, h1] using h2
 ·obtain ⟨d, hd⟩ := Option.isSome_iff_exists.1 h2
  have hs : dI P t = 1 := by
   have := congrArg List.length he
   simp at this
   omega
  refine ⟨_, kD hd hle (fun _ => hs), ?_⟩
  simpa [nl, h1, he] using h3
theorem CR.arrH {s : Sh} {n : Nat} {ys : List s.T} {r : List DV} {cs : List Value} (h : CR I w (.arr s n ys :: r) cs) : ∃ c c2, cs = c ++ c2 ∧ (Sh.arr n s).K I.R w ys c ∧ CR I w r c2 := by
 cases h with
 | one _ _ u c2 hv hu hr => cases hv
 | arr _ _ _ _ c c2 hk h1 hr => exact ⟨c, c2, rfl, hk, hr⟩
theorem CR.arr1 {s : Sh} {n : Nat} {ys : List s.T} {cs : List Value} (h : CR I w [.arr s n ys] cs) : (Sh.arr n s).K I.R w ys cs := by
 obtain ⟨c, c2, rfl, h1, h2⟩ := h.arrH
 cases h2
 simpa using h1
theorem sd {t e : TypeId} {m : Nat} {c : Array Value} {kd : IntKind} {i : Int} (hu : P.underlying t = some (.array m e)) (h0 : 0 ≤ i) (h1 : i < (m : Int)) {D : TypeDesc} (he : P.underlying e = some D) :
  (Instr.index t (.agg c) (.int kd i)).run P w = (part e c (i.toNat * dI P e)).run P w := by
 simp [Instr.index, Sem.run_bind, asIntOf, run_underlying hu, h0, h1, pg he]
theorem qE {t : TypeId} {its : List DV} {v : DV} (h : ne P t its = some v) : ∃ D, P.underlying t = some D := by
 unfold ne at h
 split at h
 ·rename_i hm
  obtain ⟨d, hd, _⟩ := qC hm
  exact ⟨d, hd⟩
 ·split at h
  ·rename_i hu
   exact Option.isSome_iff_exists.1 hu
  ·cases h
theorem wu {R : RO} {s : Sh} {n : Nat} {ys : List s.T} {c : List Value} {i : Nat} (hk : (Sh.arr n s).K R w ys c) (hi : i < n) : s.K R w (ys.getD i s.dflt) ((c.drop (i * s.sz)).take s.sz) ∧ i * s.sz + s.sz ≤ c.length := by
 refine ⟨hk.2.2 i _ (getD_some ys i s.dflt (by rw [hk.1]; exact hi)), ?_⟩
 rw [hk.2.1, ← aK]
 exact aS _ hi
theorem GQ {t : TypeId} {d : DV} {u : Value} {kd : IntKind} {i : Int} {k : DV → Option α} {r : α} (hd : VR I w d u) (h : pG P t d i k = some r) : ∃ v, k v = some r ∧ iW P I w (Instr.index t u (.int kd i)) v := by
 unfold pG at h
 split at h
 ·obtain rfl := hd.sc_eq
  split at h
  ·rename_i hu
   split at h
   ·rename_i hb
    obtain ⟨h0, h1, h2⟩ := jB hb
    exact ⟨_, h, _, A7 hu h0 h2, .sc _ rfl⟩
   ·cases h
  ·cases h
 ·rename_i cs
  cases hd with | agg _ c hc =>
  split at h
  ·rename_i m e hu
   split at h
   ·rename_i s m' ys
    split at h
    ·rename_i hm
     subst hm
     split at h
     ·rename_i hz
      split at h
      ·rename_i hb
       obtain ⟨h0, h1, h2⟩ := jB hb
       split at h
       ·rename_i v hv
        obtain ⟨D, hD⟩ := qE hv
        obtain ⟨g1, g2⟩ := wu hc.arr1 h2
        obtain ⟨q, m1, m2⟩ := wt (P := P) (cs := c.toList) (o := i.toNat * dI P e) (by rw [hz]; exact Sh.enc_ok (I := I) g1) (by rw [hz]; exact g2) hv
        exact ⟨v, h, q, by rw [sd hu h0 h1 hD]; simpa using m1, m2⟩
       ·cases h
      ·cases h
     ·cases h
    ·cases h
   ·split at h
    ·rename_i hb
     obtain ⟨h0, h1, h2⟩ := jB hb
     split at h
     ·rename_i r1 hr1
      split at h
      ·rename_i its hits
       split at h
       ·rename_i v hv
        obtain ⟨D, hD⟩ := qE hv
        obtain ⟨c1, c2, e1, l1, _, k1⟩ := lU hr1 hc
        obtain ⟨d1, d2, rfl, l2, k2⟩ := lV hits k1
        have hle := congrArg List.length e1
        simp only [aF] at hle
        have e2 : (c.toList.drop (i.toNat * dI P e)).take (dI P e) = d1 := by rw [e1, ← l1, ← l2]; simp
        obtain ⟨q, m1, m2⟩ := wt (P := P) (cs := c.toList) (o := i.toNat * dI P e) (by rw [e2]; exact k2) (by omega) hv
        exact ⟨v, h, q, by rw [sd hu h0 h1 hD]; simpa using m1, m2⟩
       ·cases h
      ·cases h
     ·cases h
    ·cases h
  ·cases h
 ·cases h
theorem xR {t : TypeId} {f o : Nat} {u : TypeId} (h : u7 P t f = some (o, u)) : ∃ fs g, P.underlying t = some (.struct fs) ∧ fs[f]? = some g ∧ g.offset = o ∧ g.type = u ∧ dI P u ≠ 0 := by
 unfold u7 at h
 split at h
 ·rename_i fs hu
  split at h
  ·rename_i g hg
   split at h
   ·cases h
   ·rename_i hz
    simp only [ab, ah] at h
    exact ⟨fs, g, hu, hg, h.1, h.2, by rw [← h.2]; exact hz⟩
  ·cases h
 ·cases h
theorem GR {t : TypeId} {d v : DV} {u : Value} {f : Nat} (hd : VR I w d u) (h : BH P t d f = some v) : iW P I w (Instr.field t u f) v := by
 unfold BH at h
 split at h
 ·rename_i o ft hf
  obtain ⟨fs, g, hu, hg, rfl, rfl, hz⟩ := xR hf
  split at h
  ·rename_i cs
   cases hd with | agg _ c hc =>
   split at h
   ·rename_i r hr
    split at h
    ·rename_i its hits
     obtain ⟨D, hD⟩ := qE h
     obtain ⟨c1, c2, e1, l1, _, k1⟩ := lU hr hc
     obtain ⟨d1, d2, rfl, l2, k2⟩ := lV hits k1
     have hle := congrArg List.length e1
     simp only [aF] at hle
     have e2 : (c.toList.drop g.offset).take (dI P g.type) = d1 := by rw [e1, ← l1, ← l2]; simp
     obtain ⟨q, m1, m2⟩ := wt (P := P) (cs := c.toList) (o := g.offset) (by rw [e2]; exact k2) (by omega) h
     refine ⟨q, ?_, m2⟩
     simp only [Instr.field, Sem.run_bind, run_underlying hu, Result.andThen_ok, hg, asAgg, Sem.run_pure]
     simpa using m1
    ·cases h
   ·cases h
  ·cases h
 ·cases h
theorem ph {t : TypeId} {f : Nat} {fs : Array Field} {g : Field} {ad : Addr} (hu : P.underlying t = some (.struct fs)) (hg : fs[f]? = some g) (hz : dI P g.type ≠ 0) : (Instr.fieldAt t (.pointer (some ad)) f).run P w = .ok (.pointer (some (ad.add g.offset))) w := by
 have hi : ∃ i, P.info? g.type = some i ∧ i.size = dI P g.type := by
  unfold dI at hz ⊢
  cases hq : P.info? g.type with
  | none => rw [hq] at hz; exact absurd rfl hz
  | some i => exact ⟨i, rfl, rfl⟩
 obtain ⟨i, hi1, hi2⟩ := hi
 have hz2 : i.size ≠ 0 := by rw [hi2]; exact hz
 simp [Instr.fieldAt, Sem.run_bind, run_underlying hu, hg, Instr.sureAddr, fieldPlace, sizeOf, typeInfo, hi1, hz2]
theorem vN (p : List Ix) (k : Nat) : dN (p ++ [.off k]) = dN p + k := by
 induction p with
 | nil => simp [dN]
 | cons x p ih => cases x <;> simp [dN, ih, bD]
theorem xS (p : List Ix) (k : Nat) (h : lJ p) : lJ (p ++ [.off k]) := by
 induction p with
 | nil => trivial
 | cons x p ih => cases x with
  | ix i m sz => exact ⟨h.1, ih h.2⟩
  | off k => exact ih h
theorem LL (p : List Ix) (i m sz : Nat) : dN (p ++ [.ix i m sz]) = dN p + i * sz := by
 induction p with
 | nil => simp [dN]
 | cons x p ih => cases x <;> simp [dN, ih, bD]
theorem MB (p : List Ix) {i m sz : Nat} (hi : i < m) (h : lJ p) : lJ (p ++ [.ix i m sz]) := by
 induction p with
 | nil => exact ⟨hi, trivial⟩
 | cons x p ih => cases x with
  | ix i m sz => exact ⟨h.1, ih h.2⟩
  | off k => exact ih h
theorem qF (ad : Addr) (n m : Nat) : (ad.add n).add m = ad.add (n + m) := Go.Deep.add_add ad n m
theorem zN : ∀ {its r : List DV} {o : Nat}, jy o its = some r → ∀ d ∈ r, d ∈ its
 | [], r, o, h, d, hd => by
  simp only [jy] at h
  split at h
  ·simp only [ab] at h; subst h; exact hd
  ·cases h
 | x :: l, r, o, h, d, hd => by
  simp only [jy] at h
  split at h
  ·simp only [ab] at h; subst h; exact hd
  ·split at h
   ·exact ay _ (zN h d hd)
   ·cases h
theorem qG {ad : Addr} (h : ad.spot = none) (n : Nat) : (ad.add n).spot = none := by unfold Addr.add; split <;> first | exact h | rfl
theorem A8 {t : TypeId} {d v : DV} {u : Value} {f : Nat} (hd : VR I w d u) (h : qB P t d f = some v) : iW P I w (Instr.fieldAt t u f) v := by
 unfold qB at h
 split at h
 ·rename_i o ft hf
  obtain ⟨fs, g, hu, hg, rfl, rfl, hz⟩ := xR hf
  split at h
  ·rename_i n o' p
   cases hd with | ptr _ _ _ b hb hp =>
   refine ⟨_, ph hu hg hz, ?_⟩
   rw [Addr.add_mid]
   split at h
   ·simp only [ab] at h
    subst h
    have := VR.ptr (I := I) (w := w) n (o' + g.offset) [] b hb trivial
    simpa [dN] using this
   ·simp only [ab] at h
    subst h
    have := VR.ptr (I := I) (w := w) n o' (p ++ [.off g.offset]) b hb (xS p _ hp)
    rw [vN, ← bD] at this
    exact this
  ·rename_i n sz i p
   cases hd with | rp _ _ _ _ b len cap hb hi hp =>
   refine ⟨_, ph hu hg hz, ?_⟩
   rw [Addr.add_mid]
   simp only [ab] at h
   subst h
   have := VR.rp (I := I) (w := w) n sz i (p ++ [.off g.offset]) b len cap hb hi (xS p _ hp)
   rw [vN, ← bD] at this
   exact this
  ·rename_i its
   cases hd with | pi _ ad cs h0 hR him hC hc =>
   refine ⟨_, ph hu hg hz, ?_⟩
   split at h
   ·rename_i r hr
    simp only [ab] at h
    subst h
    obtain ⟨c1, c2, rfl, l1, _, k1⟩ := lU hr hC
    refine .pi r _ c2 (qG h0 _) (by rw [gh]; exact hR) (fun d hd => him d (zN hr d hd)) k1 (fun j u hu => ?_)
    rw [qF]
    refine hc _ u ?_
    rw [aW (by omega), ← hu]
    congr 1
    omega
   ·cases h
  ·cases h
 ·cases h
end
section
variable {P : Program} {I : In} {w : World} {T : List DV} {a : Act} {H : Heap} {α : Type}
theorem fE {e : TypeId} {n : Nat} (h : iS P e n = true) : ∃ i, P.info? e = some i ∧ i.size = n := by
 unfold iS at h
 split at h
 ·rename_i i hi
  exact ⟨i, hi, by simpa using h⟩
 ·cases h
theorem sU {t : TypeId} {n : Nat} (h : sM P t n = true) : ∃ e i, P.underlying t = some (.slice e) ∧ P.info? e = some i ∧ i.size = n := by
 unfold sM at h
 split at h
 ·rename_i e hu
  obtain ⟨i, h1, h2⟩ := fE h
  exact ⟨e, i, hu, h1, h2⟩
 ·cases h
theorem jN {t e : TypeId} {i : TypeInfo} {ad : Addr} {len cap : Nat} {kd : IntKind} {j : Int} (hu : P.underlying t = some (.slice e)) (hi : P.info? e = some i) (h0 : 0 ≤ j) (h1 : j < (len : Int)) :
  (Instr.indexAt t (.slice (some ad) len cap) (.int kd j)).run P w = .ok (.pointer (some (ad.add (j.toNat * i.size)))) w := by
 simp [Instr.indexAt, Sem.run_bind, asIntOf, run_underlying hu, h0, h1, sizeOf, typeInfo, hi]
theorem jO {t e : TypeId} {i : TypeInfo} {ad : Addr} {len : Nat} {kd : IntKind} {j : Int} (hu : P.underlying t = some (.array len e)) (hi : P.info? e = some i) (h0 : 0 ≤ j) (h1 : j < (len : Int)) :
  (Instr.indexAt t (.pointer (some ad)) (.int kd j)).run P w = .ok (.pointer (some (ad.add (j.toNat * i.size)))) w := by
 simp [Instr.indexAt, Sem.run_bind, asIntOf, run_underlying hu, h0, h1, sizeOf, typeInfo, hi, Instr.sureAddr]
theorem jC {n : Nat} {E : TypeId} {s : Sh} {xs : List s.T} (hH : HR I w H) (h : H n = some (.row E s xs)) {sz : Nat} {A : Option Addr} {len cap : Nat} (hi : I.ι n = some (.row sz (.slice A len cap))) :
  sz = s.sz ∧ len = xs.length ∧ len ≤ cap ∧ (0 < len → ∃ b, A = some ⟨b, 0, none⟩) := by
 obtain ⟨v, cs, h1, h2, h3⟩ := hH.row n E s xs h
 rw [hi] at h1
 simp only [ab, Ent.row.injEq] at h1
 obtain ⟨rfl, rfl⟩ := h1
 rcases h2.2 with ⟨e, e0⟩ | ⟨g, c, cur, e, _, _, hcap, _⟩
 ·simp only [Value.slice.injEq] at e
  obtain ⟨rfl, rfl, rfl⟩ := e
  exact ⟨rfl, by omega, ak _, fun h => by omega⟩
 ·simp only [Value.slice.injEq] at e
  obtain ⟨rfl, rfl, rfl⟩ := e
  exact ⟨rfl, rfl, hcap, fun _ => ⟨g, rfl⟩⟩
theorem D1 {t : TypeId} {d : DV} {u : Value} {kd : IntKind} {i : Int} {k : DV → Option α} {r : α} (hH : HR I w H) (hd : VR I w d u) (h : iz P t H d i k = some r) : ∃ v, k v = some r ∧ iW P I w (Instr.indexAt t u (.int kd i)) v := by
 unfold iz at h
 split at h
 ·rename_i s xs
  cases hd with | vs _ _ _ hk =>
  split at h
  ·rename_i he
   split at h
   ·rename_i hb
    obtain ⟨h0, h1, h2⟩ := jB hb
    obtain ⟨e, inf, hu, hi, hs⟩ := sU he
    obtain ⟨A, cap, e1, e2, e3⟩ := hk
    simp only [bm, aX] at e1
    subst e1
    have hne : xs ≠ [] := by
     intro e
     rw [e] at h2
     simp at h2
    obtain ⟨ad, rfl, g1, g2, g3⟩ := e3 hne
    obtain ⟨c, m1, m2, m3⟩ := g3 _ _ (getD_some xs i.toNat s.dflt h2)
    refine ⟨_, h, _, jN hu hi h0 h1, ?_⟩
    rw [hs]
    exact .pi _ _ c (qG g1 _) (by rw [gh]; exact g2) (Sh.enc_imm s _) (Sh.enc_ok m2) (fun j q hq => by rw [qF]; exact m3 j q hq)
   ·cases h
  ·cases h
 ·rename_i n
  cases hd with | rw _ sz v hi hs =>
  split at h
  ·rename_i E s xs hrow
   split at h
   ·rename_i he
    split at h
    ·rename_i hb
     obtain ⟨h0, h1, h2⟩ := jB hb
     obtain ⟨A, l, c, rfl⟩ := hs
     obtain ⟨rfl, rfl, _, hA⟩ := jC hH hrow hi
     obtain ⟨b, rfl⟩ := hA (by omega)
     obtain ⟨e, inf, hu, hinf, hsz⟩ := sU he
     refine ⟨_, h, _, jN hu hinf h0 h1, ?_⟩
     rw [hsz, Addr.add_mid, bw]
     exact .rp n s.sz i.toNat [] b _ c hi h2 trivial
    ·cases h
   ·cases h
  ·cases h
 ·rename_i n o l
  cases hd with | sl _ _ _ sz A A' len cap cap' hi hl h0' h1' hc' =>
  split at h
  ·rename_i E s xs hrow
   split at h
   ·rename_i he
    split at h
    ·rename_i hb
     obtain ⟨h0, h1, h2⟩ := jB hb
     obtain ⟨rfl, rfl, _, hA⟩ := jC hH hrow hi
     obtain ⟨b, rfl, rfl⟩ := h1' (by omega)
     obtain ⟨e, inf, hu, hinf, hsz⟩ := sU he
     refine ⟨_, h, _, jN hu hinf h0 h1, ?_⟩
     rw [hsz, Addr.add_mid, ← bH]
     have := VR.rp (I := I) (w := w) n s.sz (o + i.toNat) [] b _ cap hi (by omega) trivial
     simpa [dN] using this
    ·cases h
   ·cases h
  ·cases h
 ·rename_i n o p
  cases hd with | ptr _ _ _ b hb hp =>
  split at h
  ·rename_i m e hu
   split at h
   ·rename_i cs hcs
    split at h
    ·rename_i its hits
     split at h
     ·rename_i s m' ys r' hat
      split at h
      ·rename_i hm
       subst hm
       split at h
       ·rename_i hz
        split at h
        ·rename_i hbd
         obtain ⟨h0, h1, h2⟩ := jB hbd
         obtain ⟨inf, hinf, hsz⟩ := fE hz
         refine ⟨_, h, _, jO hu hinf h0 h1, ?_⟩
         rw [hsz, Addr.add_mid]
         have := VR.ptr (I := I) (w := w) n o (p ++ [.ix i.toNat m' s.sz]) b hb (MB p h2 hp)
         rw [LL, ← bD] at this
         exact this
        ·cases h
       ·cases h
      ·cases h
     ·split at h
      ·split at h
       ·rename_i hz
        split at h
        ·rename_i hbd
         obtain ⟨h0, h1, h2⟩ := jB hbd
         obtain ⟨inf, hinf, hsz⟩ := fE hz
         refine ⟨_, h, _, jO hu hinf h0 h1, ?_⟩
         rw [hsz, Addr.add_mid]
         have := VR.ptr (I := I) (w := w) n (o + i.toNat * dI P e) [] b hb trivial
         simpa [dN] using this
        ·cases h
       ·cases h
      ·cases h
     ·cases h
    ·cases h
   ·cases h
  ·cases h
 ·rename_i its
  cases hd with | pi _ ad cs h0' hR him hC hc =>
  split at h
  ·rename_i m e hu
   split at h
   ·rename_i s m' ys r'
    split at h
    ·rename_i hm
     subst hm
     split at h
     ·rename_i hz
      split at h
      ·rename_i hbd
       obtain ⟨h0, h1, h2⟩ := jB hbd
       obtain ⟨inf, hinf, hsz⟩ := fE hz
       obtain ⟨c1, c2, rfl, k1, k2⟩ := hC.arrH
       obtain ⟨g1, g2⟩ := wu k1 h2
       refine ⟨_, h, _, jO hu hinf h0 h1, ?_⟩
       rw [hsz]
       refine .pi _ _ _ (qG h0' _) (by rw [gh]; exact hR) (Sh.enc_imm s _) (Sh.enc_ok g1) (fun j q hq => ?_)
       rw [qF]
       refine hc _ q ?_
       rw [aP] at hq
       split at hq
       ·rw [aV] at hq
        rw [aN (List.getElem?_eq_some_iff.1 hq).1]
        exact hq
       ·cases hq
      ·cases h
     ·cases h
    ·cases h
   ·cases h
  ·cases h
 ·cases h
theorem LM {t ty : TypeId} {d : DV} {u : Value} {n : Nat} (hH : HR I w H) (hd : VR I w d u) (h : yZ P t H d = some n) : (Builtin.len_ #[t] ty #[u]).run P w = .ok (.int .i64 (n : Int)) w := by
 unfold yZ at h
 split at h
 ·rename_i hu
  split at h
  ·simp only [ab] at h
   obtain rfl := hd.sc_eq
   subst h
   simp [Builtin.len_, Sem.run_bind, run_underlying hu, goInt]
  ·cases h
 ·rename_i e hu
  have fin : ∀ A l c, u = .slice A l c → l = n → (Builtin.len_ #[t] ty #[u]).run P w = .ok (.int .i64 (n : Int)) w := by
   rintro A l c rfl rfl
   simp [Builtin.len_, Sem.run_bind, run_underlying hu, goInt]
  split at h
  ·split at h
   ·rename_i hz
    simp only [ab] at h
    obtain rfl := hd.sc_eq
    exact fin _ _ _ rfl (by omega)
   ·cases h
  ·simp only [ab] at h
   cases hd with | vs _ _ _ hk =>
   obtain ⟨A, cap, e1, _⟩ := hk
   simp only [bm, aX] at e1
   exact fin _ _ _ e1 h
  ·split at h
   ·rename_i E s xs hrow
    simp only [ab] at h
    cases hd with | rw _ sz v hi hs =>
    obtain ⟨A, l, c, rfl⟩ := hs
    obtain ⟨_, h2, _⟩ := jC hH hrow hi
    exact fin _ _ _ rfl (by omega)
   ·cases h
  ·simp only [ab] at h
   cases hd with | sl _ _ _ sz A A' len cap cap' hi hl h0' h1' hc' => exact fin _ _ _ rfl h
  ·simp only [ab] at h
   cases hd with | ps _ _ _ _ _ b cap hb hp hl hm => exact fin _ _ _ rfl h
  ·cases h
 ·rename_i m e hu
  simp only [ab] at h
  subst h
  simp only [Builtin.len_, List.getElem?_toArray, bu]
  rw [Sem.run_bind, run_underlying hu, Result.andThen_ok]
  cases u <;> rfl
 ·cases h
theorem zO {d : DV} {u : Value} {n : Nat} {k : Nat → Option α} {r : α} (hd : VR I w d u) (h : lb d n k = some r) : ∃ l, k l = some r ∧ l ≤ n ∧ ∀ y c, n ≤ y → (Instr.sliceBound u y c).run P w = .ok l w := by
 unfold lb at h
 split at h
 ·rename_i kd i
  obtain rfl := hd.sc_eq
  split at h
  ·rename_i hc
   simp only [aj, av] at hc
   refine ⟨_, h, by omega, fun y c hy => ?_⟩
   have : i ≤ (y : Int) := by omega
   simp [Instr.sliceBound, Sem.run_bind, asIntOf, hc, this]
  ·cases h
 ·cases h
theorem Es {lo : Option DV} {lo' : Option Value} {k : Nat → Nat → Option α} {q : Nat} {r : α} (hlo : (lo = none ∧ lo' = none) ∨ ∃ d u, lo = some d ∧ lo' = some u ∧ VR I w d u) (h : sO lo k q = some r) : ∃ l, k l q = some r ∧ l ≤ q ∧ ((match lo' with
  | some v => Instr.sliceBound v q .sliceB
  | none => pure 0) : Sem Nat).run P w = .ok l w := by
 rcases hlo with ⟨rfl, rfl⟩ | ⟨d, u, rfl, rfl, hd⟩
 ·exact ⟨0, h, aA _, rfl⟩
 ·obtain ⟨l, h1, h2, h3⟩ := zO (P := P) (k := fun l => k l q) hd h
  exact ⟨l, h1, h2, h3 q .sliceB (ak _)⟩
theorem lk {n cap : Nat} {lo hi : Option DV} {lo' hi' : Option Value} {k : Nat → Nat → Option α} {r : α} (b : Bool) (hcap : n ≤ cap) (hlo : (lo = none ∧ lo' = none) ∨ ∃ d u, lo = some d ∧ lo' = some u ∧ VR I w d u) (hhi : (hi = none ∧ hi' = none) ∨ ∃ d u, hi = some d ∧ hi' = some u ∧ VR I w d u)
  (h : fC n lo hi k = some r) : ∃ l q, k l q = some r ∧ l ≤ q ∧ q ≤ n ∧ (Instr.sliceBounds b n cap lo' hi' none).run P w = .ok (l, q, cap) w := by
 unfold fC at h
 rcases hhi with ⟨rfl, rfl⟩ | ⟨d, u, rfl, rfl, hd⟩
 ·obtain ⟨l, h1, h2, h3⟩ := Es (P := P) hlo h
  refine ⟨l, n, h1, h2, ak _, ?_⟩
  cases lo' with
  | none => simp only [Instr.sliceBounds, Sem.run_bind, Sem.run_pure, Result.andThen_ok] at h3 ⊢; simp_all
  | some v => simp only [Instr.sliceBounds, Sem.run_bind, Sem.run_pure, Result.andThen_ok, Option.isSome_none, aL, aC] at h3 ⊢; rw [h3]; rfl
 ·obtain ⟨q, h1, h2, h3⟩ := zO (P := P) (k := sO lo k) hd h
  obtain ⟨l, g1, g2, g3⟩ := Es (P := P) hlo h1
  refine ⟨l, q, g1, g2, h2, ?_⟩
  cases lo' with
  | none => simp only [Instr.sliceBounds, Sem.run_bind, Sem.run_pure, Result.andThen_ok, h3 cap _ hcap] at g3 ⊢; simp_all
  | some v => simp only [Instr.sliceBounds, Sem.run_bind, Sem.run_pure, Result.andThen_ok, h3 cap _ hcap, Option.isSome_none, aL, aC] at g3 ⊢; rw [g3]; rfl
theorem OX {R : RO} {s : Sh} {xs : List s.T} {A : Option Addr} {cap l q : Nat} (h : (Sh.sl s).K R w xs [.slice A xs.length cap]) (h1 : l ≤ q) (h2 : q ≤ xs.length) :
  (Sh.sl s).K R w ((xs.take q).drop l) [.slice (if cap = l then A else A.map (·.add (l * s.sz))) (q - l) (cap - l)] := by
 obtain ⟨A0, cap0, e, g2, g3⟩ := h
 simp only [bm, Value.slice.injEq, aX, true_and] at e
 obtain ⟨rfl, rfl⟩ := e
 have hlen : ((xs.take q).drop l).length = q - l := by simp; omega
 refine ⟨_, _, by rw [hlen], by rw [hlen]; omega, fun hn => ?_⟩
 have hlt : l < q := by
  rcases am l q with h | h
  ·exact h
  ·exact absurd (bn (by omega)) hn
 have hne : xs ≠ [] := by
  intro e
  rw [e] at h2
  simp at h2
  omega
 obtain ⟨ad, rfl, m1, m2, m3⟩ := g3 hne
 rw [if_neg (by omega)]
 refine ⟨_, rfl, qG m1 _, by rw [gh]; exact m2, fun i x hx => ?_⟩
 have hx2 : xs[l + i]? = some x := by
  rw [aV, aP] at hx
  split at hx
  ·exact hx
  ·cases hx
 obtain ⟨c, k1, k2, k3⟩ := m3 _ x hx2
 refine ⟨c, k1, k2, fun j u hu => ?_⟩
 have := k3 j u hu
 rw [qF, ← this]
 congr 2
 rw [bH]
 omega
theorem GS {t : TypeId} {d : DV} {u : Value} {lo hi mx : Option DV} {lo' hi' mx' : Option Value} {k : DV → Option α} {r : α} (hH : HR I w H) (hd : VR I w d u) (hlo : (lo = none ∧ lo' = none) ∨ ∃ d u, lo = some d ∧ lo' = some u ∧ VR I w d u) (hhi : (hi = none ∧ hi' = none) ∨ ∃ d u, hi = some d ∧ hi' = some u ∧ VR I w d u) (hmx : mx = none → mx' = none)
  (h : lf P t H d lo hi mx k = some r) : ∃ v, k v = some r ∧ iW P I w (Instr.sliceAt t u lo' hi' mx') v := by
 unfold lf at h
 split at h
 ·cases h
 ·obtain rfl := hmx rfl
  split at h
  ·rename_i s hu
   obtain rfl := hd.sc_eq
   obtain ⟨l, q, h1, h2, h3, h4⟩ := lk (P := P) false (ak _) hlo hhi h
   refine ⟨_, h1, _, ?_, .sc _ rfl⟩
   simp [Instr.sliceAt, Instr.slice, Sem.run_bind, run_underlying hu, h4]
  ·rename_i e s xs hu
   cases hd with | vs _ _ _ hk =>
   split at h
   ·rename_i hz
    obtain ⟨inf, hinf, hsz⟩ := fE hz
    obtain ⟨A, cap, e1, e2, e3⟩ := id hk
    simp only [bm, aX] at e1
    subst e1
    obtain ⟨l, q, h1, h2, h3, h4⟩ := lk (P := P) true e2 hlo hhi h
    refine ⟨_, h1, _, ?_, .vs s _ _ (OX hk h2 h3)⟩
    simp [Instr.sliceAt, Instr.slice, Sem.run_bind, run_underlying hu, h4, sizeOf, typeInfo, hinf, hsz]
   ·cases h
  ·rename_i m e n o p hu
   cases hd with | ptr _ _ _ b hb hp =>
   split at h
   ·cases h
   ·obtain rfl : lo' = none := by
     rcases hlo with ⟨_, h⟩ | ⟨_, _, h, _⟩
     ·exact h
     ·cases h
    split at h
    ·rename_i cs hcs
     split at h
     ·rename_i s m' ys r' hat
      split at h
      ·rename_i hm
       subst hm
       split at h
       ·rename_i hz
        obtain ⟨inf, hinf, hsz⟩ := fE hz
        obtain ⟨l, q, h1, h2, h3, h4⟩ := lk (P := P) false (ak _) (.inl ⟨rfl, rfl⟩) hhi h
        split at h1
        ·rename_i hl0
         subst hl0
         refine ⟨_, h1, .slice (some ⟨b, o + dN p, none⟩) q m', ?_, .ps n o p m' q b m' hb hp h3 h3⟩
         simp [Instr.sliceAt, Instr.sureAddr, Sem.run_bind, run_underlying hu, h4, sizeOf, typeInfo, hinf]
         exact fun _ => rfl
        ·cases h1
       ·cases h
      ·cases h
     ·cases h
    ·cases h
  ·rename_i e n hu
   cases hd with | rw _ sz v hi hs =>
   split at h
   ·rename_i E s xs hrow
    split at h
    ·rename_i hE
     subst hE
     split at h
     ·rename_i hz
      obtain ⟨inf, hinf, hsz⟩ := fE hz
      obtain ⟨A, len, cap, rfl⟩ := hs
      obtain ⟨rfl, rfl, hcap, hA⟩ := jC hH hrow hi
      obtain ⟨l, q, h1, h2, h3, h4⟩ := lk (P := P) true hcap hlo hhi h
      refine ⟨_, h1, .slice (if cap = l then A else A.map (·.add (l * s.sz))) (q - l) (cap - l), ?_, ?_⟩
      ·simp [Instr.sliceAt, Instr.slice, Sem.run_bind, run_underlying hu, h4, sizeOf, typeInfo, hinf, hsz]
      ·refine .sl n l (q - l) s.sz A _ xs.length cap _ hi (by omega) (fun h0 => ?_) (fun hp => ?_) (by omega)
       ·subst h0
        refine ⟨?_, by omega⟩
        split
        ·rfl
        ·cases A <;> simp [show ∀ ad : Addr, ad.add 0 = ad from fun _ => rfl]
       ·obtain ⟨b, rfl⟩ := hA (by omega)
        refine ⟨b, rfl, ?_⟩
        rw [if_neg (by omega)]
        simp [Addr.add_mid]
     ·cases h
    ·cases h
   ·cases h
  ·rename_i e n o m hu
   cases hd with | sl _ _ _ sz A A' len cap cap' hi hl h0' h1' hc' =>
   split at h
   ·rename_i E s xs hrow
    split at h
    ·rename_i hE
     subst hE
     split at h
     ·rename_i hz
      obtain ⟨inf, hinf, hsz⟩ := fE hz
      obtain ⟨rfl, rfl, hcap, hA⟩ := jC hH hrow hi
      obtain ⟨l, q, h1, h2, h3, h4⟩ := lk (P := P) true hc' hlo hhi h
      refine ⟨_, h1, .slice (if cap' = l then A' else A'.map (·.add (l * s.sz))) (q - l) (cap' - l), ?_, ?_⟩
      ·simp [Instr.sliceAt, Instr.slice, Sem.run_bind, run_underlying hu, h4, sizeOf, typeInfo, hinf, hsz]
      ·refine .sl n (o + l) (q - l) s.sz A _ xs.length cap _ hi (by omega) (fun h0 => ?_) (fun hp => ?_) (by omega)
       ·have ho : o = 0 := by omega
        have hl0 : l = 0 := by omega
        subst ho
        subst hl0
        obtain ⟨rfl, rfl⟩ := h0' rfl
        refine ⟨?_, by omega⟩
        split
        ·rfl
        ·cases A' <;> simp [show ∀ ad : Addr, ad.add 0 = ad from fun _ => rfl]
       ·obtain ⟨b, rfl, rfl⟩ := h1' (by omega)
        refine ⟨b, rfl, ?_⟩
        rw [if_neg (by omega)]
        simp [Addr.add_mid, bH]
     ·cases h
    ·cases h
   ·cases h
  ·cases h
end
section
variable {P : Program} {I : In} {w : World} {T : List DV} {a : Act} {H : Heap} {α : Type}
theorem n8 {d : DV} {v : Value} (h : VR I w d v) (hs : d.storable = true) : CR I w d.items v.cells.toList := by
 have one : ∀ {d : DV} {v : Value}, VR I w d v → v.oneCell' = true → CR I w [d] v.cells.toList := by
  intro d v h h1
  rw [GJ h1]
  exact .one _ _ _ _ h h1 .nil
 cases h with
 | undef v => cases hs
 | sc v h1 => exact one (.sc _ h1) h1
 | ptr n o p b h1 hp => exact one (.ptr n o p b h1 hp) rfl
 | rp n sz i p b len cap h1 hi hp => exact one (.rp n sz i p b len cap h1 hi hp) rfl
 | pi its ad cs h0 hR him hC hc => exact one (.pi its ad cs h0 hR him hC hc) rfl
 | rw n sz v h1 h2 =>
  obtain ⟨A, l, c, rfl⟩ := id h2
  exact one (.rw n sz _ h1 h2) rfl
 | sl n o l sz A A' len cap cap' h1 hl h0 h1' hc => exact one (.sl n o l sz A A' len cap cap' h1 hl h0 h1' hc) rfl
 | vs s xs v hk =>
  have := Sh.K_one hk v (by simp)
  exact one (.vs s xs v hk) this
 | fn F a b a' b' h1 h2 => exact one (.fn F a b a' b' h1 h2) rfl
 | agg ds cs hc => exact hc
 | tup ds vs h => cases hs
 | tab ks vs us b es cl hR hb hE h => exact one (.tab ks vs us b es cl hR hb hE h) rfl
 | mh n b h => exact one (.mh n b h) rfl
 | fp t n v h => exact one (.fp t n v h) (Sh.K_one h v (by simp))
 | ps n o p m l b cap h hp hl hm => exact one (.ps n o p m l b cap h hp hl hm) rfl
def In.put (I : In) (n : Nat) (e : Ent) : In := ⟨fun m => if m = n then some e else I.ι m, I.R⟩
theorem dv {I : In} {n : Nat} {e : Ent} : (I.put n e).ι n = some e := by simp [In.put]
theorem dn {I : In} {n m : Nat} {e : Ent} (h : m ≠ n) : (I.put n e).ι m = I.ι m := by simp [In.put, h]
theorem ny {I : In} {n m : Nat} {e : Ent} {t : TypeId} {B : Nat → Nat → Prop} (h0 : ∀ t B, I.ι n ≠ some (.fam t B)) (he : ∀ t B, e ≠ .fam t B) : (I.put n e).ι m = some (.fam t B) ↔ I.ι m = some (.fam t B) := by
 by_cases hm : m = n
 ·subst hm
  rw [dv]
  exact ⟨fun h => absurd (au h) (he t B), fun h => absurd h (h0 t B)⟩
 ·rw [dn hm]
theorem Heap.set_same {H : Heap} {n : Nat} {b : Option Blk} : H.set n b n = b := by simp [Heap.set]
theorem dR {H : Heap} {n m : Nat} {b : Option Blk} (h : m ≠ n) : H.set n b m = H m := by simp [Heap.set, h]
theorem qH (w : World) (o : Obj) {b : Nat} (h : b < w.heap.size) : (w.alloc o).heap[b]? = w.heap[b]? := Below.heap_alloc w o b h
theorem qI (w : World) (o : Obj) : (w.alloc o).heap[w.heap.size]? = some o := Go.heap_alloc_new w o
theorem pj (w : World) (o : Obj) : (w.alloc o).heap.size = w.heap.size + 1 := World.size_alloc w o
theorem Same.alloc (hH : HR I w H) {n : Nat} (hn : H n = none) (e : Ent) (o : Obj) : Same I (I.put n e) w (w.alloc o) := by
 have h0 := hH.dom n hn
 refine ⟨⟨fun b h => h, fun b h => qH w o (hH.rlt b h), fun _ _ _ h => h⟩, fun m b h => ?_, fun m sz v h => ?_⟩
 ·rw [dn]
  ·exact h
  ·rintro rfl; rw [h0] at h; cases h
 ·rw [dn]
  ·exact h
  ·rintro rfl; rw [h0] at h; cases h
def BR (I : In) (w : World) (n : Nat) : Blk → Prop
 | .obj cs => ∃ b c t, I.ι n = some (.obj b) ∧ w.heap[b]? = some (.cells c t (0, 0)) ∧ CR I w cs c.toList
 | .row E s xs => ∃ v cs, I.ι n = some (.row s.sz v) ∧ w.ownsRow 0 E s.sz v xs.length cs ∧ (Sh.arr xs.length s).K I.R w xs cs
 | .mp ks vs => MR I w n ks vs
 | .fam t k xs => FamR I w n t k xs
theorem HR.br (hH : HR I w H) {n : Nat} {b : Blk} (h : H n = some b) : BR I w n b := by
 cases b with
 | obj cs => exact hH.obj n cs h
 | row E s xs => exact hH.row n E s xs h
 | mp ks vs => exact hH.mp n ks vs h
 | fam t k xs => exact hH.fam n t k xs h
theorem HR.of {I : In} {w : World} {H : Heap} (h : ∀ n b, H n = some b → BR I w n b) (dom : ∀ n, H n = none → I.ι n = none) (lt : ∀ n e b, I.ι n = some e → e.has b → b < w.heap.size ∧ ¬ I.R b)
  (inj : ∀ n m e e' b, I.ι n = some e → I.ι m = some e' → e.has b → e'.has b → n = m) (rlt : ∀ b, I.R b → b < w.heap.size) (one : ∀ n m t B B', I.ι n = some (.fam t B) → I.ι m = some (.fam t B') → n = m) : HR I w H :=
 ⟨fun n cs h1 => h n _ h1, fun n E s xs h1 => h n _ h1, fun n ks vs h1 => h n _ h1, fun n t k xs h1 => h n _ h1, dom, lt, inj, rlt, one⟩
theorem n9 {w w' : World} {base : Nat} {E : TypeId} {sz : Nat} {v : Value} {n : Nat} {xs : List Value} (h : w.ownsRow base E sz v n xs) (hb : ∀ b, v.ownBlock = some b → w'.heap[b]? = w.heap[b]?) : w'.ownsRow base E sz v n xs := by
 refine ⟨h.1, ?_⟩
 rcases h.2 with h1 | ⟨g, cap, cur, rfl, h2, h3, h4⟩
 ·exact .inl h1
 ·exact .inr ⟨g, cap, cur, rfl, h2, (hb g rfl).trans h3, h4⟩
theorem MemR.keep {R R' : RO} {w w' : World} (hk : Keeps R R' w w') {k : List EK} {x : fY k} {b : Nat} {B : Nat → Prop} (h : MemR R w k x b B) (hb : ∀ c, B c → w'.heap[c]? = w.heap[c]?) : MemR R' w' k x b B := by
 obtain ⟨ι, h1, ⟨c, t, h2, h3⟩, h4, h5, h6, h7, h8⟩ := h
 have hs : Same ⟨ι, R⟩ ⟨ι, R'⟩ w w' := ⟨hk, fun _ _ h => h, fun _ _ _ h => h⟩
 refine ⟨ι, h1, ⟨c, t, (hb b (h7 0 _ b h1 rfl)).trans h2, CR.keep hs h3⟩, fun n E s xs hn => ?_, h5, h6, h7, h8⟩
 obtain ⟨v, cs, g1, g2, g3⟩ := h4 n E s xs hn
 exact ⟨v, cs, g1, n9 g2 (fun g hg => hb g (h7 n _ g g1 hg)), Sh.K_keep hk g3⟩
theorem FamR.keep {I I' : In} {w w' : World} {n : Nat} {t : TypeId} {k : List EK} {xs : List (fY k)} (hk : Keeps I.R I'.R w w') (hf : ∀ B, I.ι n = some (.fam t B) → I'.ι n = some (.fam t B) ∧ I'.R.fam t = I.R.fam t) (h : FamR I w n t k xs) (hb : ∀ e g, I.ι n = some e → e.has g → w'.heap[g]? = w.heap[g]?) : FamR I' w' n t k xs := by
 obtain ⟨B, h1, h2, h3, h4, h5⟩ := h
 obtain ⟨g1, g2⟩ := hf B h1
 refine ⟨B, g1, by rw [g2]; exact h2, fun i x b hx hb' => ?_, h4, h5⟩
 rw [g2] at hb'
 exact (h3 i x b hx hb').keep hk (fun c hc => hb _ c h1 ⟨i, hc⟩)
theorem BR.keep {I I' : In} {w w' : World} (hs : Same I I' w w') {n : Nat} {b : Blk} (h : BR I w n b) (hf : ∀ t B, I.ι n = some (.fam t B) → I'.ι n = some (.fam t B) ∧ I'.R.fam t = I.R.fam t) (hb : ∀ e g, I.ι n = some e → e.has g → w'.heap[g]? = w.heap[g]?) : BR I' w' n b := by
 cases b with
 | obj cs =>
  obtain ⟨b, c, t, h1, h2, h3⟩ := h
  exact ⟨b, c, t, hs.obj _ _ h1, (hb _ b h1 rfl).trans h2, CR.keep hs h3⟩
 | row E s xs =>
  obtain ⟨v, cs, h1, h2, h3⟩ := h
  exact ⟨v, cs, hs.row _ _ _ h1, n9 h2 (fun g hg => hb _ g h1 hg), Sh.K_keep hs.keeps h3⟩
 | mp ks vs => exact MR.keep hs h (fun b hb' => hb _ b hb' rfl)
 | fam t k xs => exact FamR.keep hs.keeps (fun B hB => hf t B hB) h hb
theorem HR.alloc (hH : HR I w H) {n : Nat} (hn : H n = none) {e : Ent} {o : Obj} (he : ∀ b, e.has b → b = w.heap.size) (hf : ∀ t B, e ≠ .fam t B) {b : Blk} (hb : BR (I.put n e) (w.alloc o) n b) : HR (I.put n e) (w.alloc o) (H.set n (some b)) := by
 have h0 := hH.dom n hn
 have hs := Same.alloc hH hn e o
 refine HR.of (fun m b' h => ?_) (fun m h => ?_) (fun m e' b' h hb' => ?_) (fun m m' e1 e2 b' h1 h2 g1 g2 => ?_) (fun b' h => ?_) (fun m m' t B B' h1 h2 => ?_)
 ·by_cases hm : m = n
  ·subst hm
   rw [Heap.set_same] at h
   simp only [ab] at h
   subst h
   exact hb
  ·rw [dR hm] at h
   exact (hH.br h).keep hs (fun t B h1 => ⟨by rw [dn hm]; exact h1, rfl⟩) (fun e' g h1 h2 => qH w o (hH.lt m e' g h1 h2).1)
 ·by_cases hm : m = n
  ·subst hm; rw [Heap.set_same] at h; cases h
  ·rw [dR hm] at h
   rw [dn hm]
   exact hH.dom m h
 ·rw [pj]
  by_cases hm : m = n
  ·subst hm
   rw [dv] at h
   simp only [ab] at h
   subst h
   have := he b' hb'
   subst this
   exact ⟨by omega, fun hR => by have := hH.rlt _ hR; omega⟩
  ·rw [dn hm] at h
   obtain ⟨k1, k2⟩ := hH.lt m e' b' h hb'
   exact ⟨by omega, k2⟩
 ·by_cases hm : m = n
  ·by_cases hm' : m' = n
   ·rw [hm, hm']
   ·exfalso
    subst hm
    rw [dv] at h1
    rw [dn hm'] at h2
    simp only [ab] at h1
    subst h1
    have := he b' g1
    have := (hH.lt m' e2 b' h2 g2).1
    omega
  ·by_cases hm' : m' = n
   ·exfalso
    subst hm'
    rw [dv] at h2
    rw [dn hm] at h1
    simp only [ab] at h2
    subst h2
    have := he b' g2
    have := (hH.lt m e1 b' h1 g1).1
    omega
   ·rw [dn hm] at h1
    rw [dn hm'] at h2
    exact hH.inj m m' e1 e2 b' h1 h2 g1 g2
 ·rw [pj]
  have := hH.rlt b' h
  omega
 ·have key : ∀ m B, (I.put n e).ι m = some (.fam t B) → I.ι m = some (.fam t B) := fun m B h => by
   by_cases hm : m = n
   ·subst hm
    rw [dv] at h
    simp only [ab] at h
    exact absurd h (hf t B)
   ·rw [dn hm] at h
    exact h
  exact hH.one m m' t B B' (key m B h1) (key m' B' h2)
theorem Ext.alloc (hH : HR I w H) {n : Nat} (hn : H n = none) {e : Ent} {o : Obj} (he : ∀ b, e.has b → b = w.heap.size) (hf : ∀ t B, e ≠ .fam t B) : Ext I w (I.put n e) (w.alloc o) := by
 have h0 := hH.dom n hn
 refine ⟨fun m b h => ?_, fun b h => h, fun b hb _ => qH w o hb, fun m e' b h hb => ?_, fun b h => .inl h, by rw [pj]; omega, rfl, rfl, rfl, fun _ _ _ h => h, fun t ht => ⟨rfl, fun m B h => ?_⟩⟩
 ·rw [dn]
  ·exact h
  ·rintro rfl; rw [h0] at h; cases h
 ·by_cases hm : m = n
  ·subst hm
   rw [dv] at h
   simp only [ab] at h
   subst h
   exact .inr (by rw [he b hb]; exact ak _)
  ·rw [dn hm] at h
   exact .inl ⟨m, e', h, hb⟩
 ·by_cases hm : m = n
  ·subst hm
   rw [dv] at h
   simp only [ab] at h
   exact hf t B h
  ·rw [dn hm] at h
   exact ht m B h
theorem Rows.alloc (hH : HR I w H) {n : Nat} (hn : H n = none) (e : Ent) : Rows I (I.put n e) := by
 have h0 := hH.dom n hn
 refine ⟨fun m sz v h => ?_⟩
 rw [dn]
 ·exact h
 ·rintro rfl; rw [h0] at h; cases h
theorem BP {o : Oper} {n : Nat} {its : List DV} {c : Array Value} {t : TypeId} (hH : HR I w H) (hn : H n = none) (hC : CR I w its c.toList) (hr : (execOp a.eval o).run P w = .ok (.value (.pointer (some ⟨w.heap.size, 0, none⟩))) (w.alloc (.cells c t))) :
  Done P o a I w H (.ptr n 0 []) (some (n, .obj its)) := by
 have he : ∀ b, (Ent.obj w.heap.size).has b → b = w.heap.size := fun b h => h.symm
 have hf : ∀ t B, Ent.obj w.heap.size ≠ .fam t B := fun _ _ h => by cases h
 refine ⟨I.put n (.obj w.heap.size), _, _, hr, Ext.alloc hH hn he hf, Rows.alloc hH hn _, ?_, ?_⟩
 ·exact HR.alloc hH hn he hf ⟨w.heap.size, c, t, dv, qI w _, CR.keep (Same.alloc hH hn _ _) hC⟩
 ·have := VR.ptr (I := I.put n (.obj w.heap.size)) (w := w.alloc (.cells c t)) n 0 [] w.heap.size dv trivial
  show VR _ _ _ _
  simpa [dN] using this
theorem wv {o : Oper} {n : Nat} {E : TypeId} {s : Sh} {xs : List s.T} {c : Array Value} (hH : HR I w H) (hn : H n = none) (hk : (Sh.arr xs.length s).K I.R w xs c.toList) (hm : xs.length ≤ maxLen) (hr : (execOp a.eval o).run P w = .ok (.value (.slice (some ⟨w.heap.size, 0, none⟩) xs.length xs.length)) (w.alloc (.cells c E))) :
  Done P o a I w H (.rw n) (some (n, .row E s xs)) := by
 have he : ∀ b, (Ent.row s.sz (.slice (some ⟨w.heap.size, 0, none⟩) xs.length xs.length)).has b → b = w.heap.size := fun b h => by simpa [Ent.has, Value.ownBlock] using h.symm
 have hf : ∀ t B, Ent.row s.sz (.slice (some ⟨w.heap.size, 0, none⟩) xs.length xs.length) ≠ .fam t B := fun _ _ h => by cases h
 refine ⟨I.put n (.row s.sz (.slice (some ⟨w.heap.size, 0, none⟩) xs.length xs.length)), _, _, hr, Ext.alloc hH hn he hf, Rows.alloc hH hn _, ?_, ?_⟩
 ·refine HR.alloc hH hn he hf ⟨_, c.toList, dv, ⟨hk.2.1, .inr ⟨w.heap.size, xs.length, c, rfl, aA _, qI w _, ak _, hm, by simpa using hk.2.1, ?_⟩⟩, Sh.K_keep (Same.alloc hH hn _ _).keeps hk⟩
  exact aR (aZ hk.2.1)
 ·exact VR.rw n s.sz _ dv ⟨_, _, _, rfl⟩
end
section
variable {P : Program} {I : In} {w : World} {T : List DV} {a : Act} {H : Heap} {α : Type}
theorem GT {v : Value} (hs : (zK v).storable = true) : CR I w (zK v).items v.cells.toList := n8 (xO v) hs
theorem qJ {t : TypeId} {its : List DV} (h : nv P t = some its) : ∃ i z, P.info? t = some i ∧ i.zero = some z ∧ CR I w its z.cells.toList := by
 unfold nv at h
 split at h
 ·rename_i i hi
  split at h
  ·rename_i v hv
   split at h
   ·rename_i hs
    exact ⟨i, v, hi, hv, vd h (GT hs)⟩
   ·cases h
  ·cases h
 ·cases h
theorem Jh {o : Oper} {e : TypeId} {n : Nat} {its : List DV} (ho : o.op = .alloc e) (hH : HR I w H) (hn : H n = none) (hz : nv P e = some its) : Done P o a I w H (.ptr n 0 []) (some (n, .obj its)) := by
 obtain ⟨i, z, hi, h1, h2⟩ := qJ (I := I) (w := w) hz
 refine BP (c := z.cells) (t := e) hH hn h2 ?_
 unfold execOp
 rw [ho]
 refine jA ?_
 simp [Instr.alloc, zeroValue, typeInfo, Sem.run_bind, hi, h1, newVar, newRow]
theorem MC {o : Oper} {e : TypeId} {x : Operand} {n : Nat} {its : List DV} (ho : o.op = .box e x) (hT : TR I w T a) (hH : HR I w H) (hn : H n = none) (hs : (dj T x).storable = true) (hz : pd (xI P 8 e) (dj T x).items = some its) : Done P o a I w H (.ptr n 0 []) (some (n, .obj its)) := by
 refine BP (c := (a.eval x).cells) (t := e) hH hn (vd hz (n8 (dP hT x) hs)) ?_
 unfold execOp
 rw [ho]
 refine jA ?_
 simp [Instr.box, Sem.run_bind, newVar, newRow]
theorem qK {R : RO} : ∀ {s : Sh} {cs r : List Value}, zeroK s cs = some r → ∃ c, cs = c ++ r ∧ s.K R w s.dflt c
 | .int k, cs, r, h => by
  simp only [zeroK] at h
  split at h
  ·split at h
   ·rename_i hk
    split at h
    ·rename_i hn
     simp only [ab] at h
     subst h hk hn
     exact ⟨[_], rfl, rfl⟩
    ·cases h
   ·cases h
  ·cases h
 | .bool, cs, r, h => by
  simp only [zeroK] at h
  split at h
  ·split at h
   ·cases h
   ·rename_i hb
    simp only [ab] at h
    subst h
    simp only [Bool.not_eq_true] at hb
    subst hb
    exact ⟨[_], rfl, rfl⟩
  ·cases h
 | .str, cs, r, h => by
  simp only [zeroK] at h
  split at h
  ·split at h
   ·rename_i hs
    simp only [ab] at h
    subst h hs
    exact ⟨[_], rfl, rfl⟩
   ·cases h
  ·cases h
 | .pair p q, cs, r, h => by
  simp only [zeroK] at h
  split at h
  ·rename_i r1 h1
   obtain ⟨c1, rfl, k1⟩ := qK (R := R) h1
   obtain ⟨c2, rfl, k2⟩ := qK (R := R) h
   exact ⟨c1 ++ c2, by simp, c1, c2, rfl, k1, k2⟩
  ·cases h
 | .sl e, cs, r, h => by
  simp only [zeroK] at h
  split at h
  ·split at h
   ·rename_i hn
    simp only [ab] at h
    subst h hn
    exact ⟨[_], rfl, none, _, rfl, aA _, fun h => absurd rfl h⟩
   ·cases h
  ·cases h
 | .fp t, cs, r, h => by
  simp only [zeroK] at h
  split at h
  ·simp only [ab] at h
   subst h
   exact ⟨[_], rfl, .inl ⟨rfl, rfl⟩⟩
  ·cases h
 | .arr n e, cs, r, h => by
  simp only [zeroK] at h
  have key : ∀ (n : Nat) (cs : List Value), zeroK.zeroN (zeroK e) n cs = some r → ∃ c, cs = c ++ r ∧ (Sh.arr n e).K R w (List.replicate n e.dflt) c := by
   intro n
   induction n with
   | zero =>
    intro cs h
    simp only [zeroK.zeroN, ab] at h
    subst h
    exact ⟨[], rfl, rfl, by simp, fun i x hx => by simp at hx⟩
   | succ n ih =>
    intro cs h
    simp only [zeroK.zeroN] at h
    split at h
    ·rename_i r1 h1
     obtain ⟨c1, rfl, k1⟩ := qK (R := R) h1
     obtain ⟨c2, rfl, m1, m2, m3⟩ := ih _ h
     have hl := Sh.K_len k1
     refine ⟨c1 ++ c2, by simp, by simp, by simp [hl, m2, aK, bS], fun i x hx => ?_⟩
     cases i with
     | zero =>
      simp only [List.replicate_succ, bu, ab] at hx
      subst hx
      simpa [bC (aZ hl.symm), aR (aZ hl)] using k1
     | succ i =>
      simp only [List.replicate_succ, cG] at hx
      have := m3 i x hx
      rw [aK, bS, ← bv, bX (aZ hl.symm), ce (aZ hl), bI]
      exact this
    ·cases h
  exact key n cs h
theorem MD {R : RO} {s : Sh} {z : Array Value} (hz : s.K R w s.dflt z.toList) (hp : 0 < s.sz) (n : Nat) : (Sh.arr n s).K R w (List.replicate n s.dflt) (madeCells z (n * s.sz)).toList := by
 have hl : z.size = s.sz := by simpa using Sh.K_len hz
 refine ⟨by simp, by simp [madeCells], fun i x hx => ?_⟩
 have hi : i < n := by simpa using (List.getElem?_eq_some_iff.1 hx).1
 have hx2 : x = s.dflt := by
  simp [bF, hi] at hx
  exact hx.symm
 subst hx2
 have hle : i * s.sz + s.sz ≤ n * s.sz := by rw [← aK]; exact aS _ hi
 have : ((madeCells z (n * s.sz)).toList.drop (i * s.sz)).take s.sz = z.toList := by
  apply cq
  intro j
  rw [aP]
  split
  ·rename_i hj
   have hm : (i * s.sz + j) % z.size = j := by rw [hl, Nat.mul_comm, Nat.mul_add_mod, Nat.mod_eq_of_lt hj]
   have h2 : i * s.sz + j < n * s.sz := by omega
   have hj2 : j < z.size := by omega
   simp only [madeCells, aV, cr, Array.getElem?_map, Array.getElem?_range, h2, if_true, bG, hm]
   rw [getElem!_pos z j hj2, Array.getElem?_eq_getElem hj2]
  ·rename_i hj
   rw [ct (by simp [hl]; omega)]
 rw [this]
 exact hz
theorem zP {R : RO} {e : TypeId} {s : Sh} (h : jR P e s = true) : ∃ i z, P.info? e = some i ∧ i.zero = some z ∧ i.size = s.sz ∧ 0 < s.sz ∧ s.K R w s.dflt z.cells.toList := by
 unfold jR at h
 split at h
 ·rename_i i hi
  simp only [aj, ai, av] at h
  obtain ⟨⟨h1, h2⟩, h3⟩ := h
  split at h3
  ·rename_i z hz
   split at h3
   ·rename_i r hr
    obtain ⟨c, e1, k⟩ := qK (w := w) (R := R) hr
    have : r = [] := by simpa using h3
    subst this
    rw [aG] at e1
    exact ⟨i, z, hi, hz, h1, h2, e1 ▸ k⟩
   ·cases h3
  ·cases h3
 ·cases h
theorem BQ {o : Oper} {t e : TypeId} {l c : Operand} {s : Sh} {n : Nat} {q m : Int} (ho : o.op = .makeSlice t l c) (hT : TR I w T a) (hH : HR I w H) (hn : H n = none) (hu : P.underlying t = some (.slice e)) (hl : dj T l = .sc (.int .i64 q)) (hc : dj T c = .sc (.int .i64 m))
  (h1 : (decide (0 ≤ q) && (q == m) && decide (q * (eU P e : Int) ≤ 140737488355328) && decide (1 ≤ eU P e)) = true) (hz : jR P e s = true) : Done P o a I w H (.rw n) (some (n, .row e s (List.replicate q.toNat s.dflt))) := by
 simp only [aj, av, ai] at h1
 obtain ⟨⟨⟨h0, rfl⟩, h2⟩, h3⟩ := h1
 obtain ⟨i, z, hi, hz0, hsz, hp, hk⟩ := zP (w := w) (R := I.R) hz
 have hb : eU P e = i.bytes := by simp [eU, hi]
 rw [hb] at h2 h3
 have hq : q ≤ 140737488355328 := by
  have : q * 1 ≤ q * (i.bytes : Int) := Int.mul_le_mul_of_nonneg_left (by omega) h0
  omega
 have hl2 := hT
 have e1 := dP hT l
 have e2 := dP hT c
 rw [hl] at e1
 rw [hc] at e2
 have e1 := e1.sc_eq
 have e2 := e2.sc_eq
 have hr := run_make (P := P) w t e i z hu hi hz0 .i64 .i64 q q h0 (bh _) (by rw [Int.mul_comm]; omega) (by omega)
 rw [hsz] at hr
 have := wv (P := P) (a := a) (o := o) (E := e) (s := s) (xs := List.replicate q.toNat s.dflt) (c := madeCells z.cells (q.toNat * s.sz)) hH hn (by rw [b8]; exact MD hk hp q.toNat) (by simp [maxLen]; omega) (by
  unfold execOp
  rw [ho]
  refine jA ?_
  simp only [e1, e2]
  simpa using hr)
 exact this
theorem nf : ∀ (d : List Value) (w : World) (b off : Nat) (c : Array Value) (t : TypeId), w.heap[b]? = some (.cells c t (0, 0)) → off + d.length ≤ c.size →
  ∃ c', (w.setCells b off d).heap[b]? = some (.cells c' t (0, 0)) ∧ c'.toList = dK c.toList off d ∧ (∀ g, g ≠ b → (w.setCells b off d).heap[g]? = w.heap[g]?) ∧ (w.setCells b off d).heap.size = w.heap.size ∧ (w.setCells b off d).os = w.os ∧ (w.setCells b off d).tape = w.tape ∧ (w.setCells b off d).output = w.output
 | [], w, b, off, c, t, h, hl => ⟨c, h, by simp [dK], fun _ _ => rfl, rfl, rfl, rfl, rfl⟩
 | v :: d, w, b, off, c, t, h, hl => by
  simp only [aH] at hl
  have h1 : (w.setCell ⟨b, off, none⟩ v).heap[b]? = some (.cells (c.setIfInBounds off v) t (0, 0)) := by
   simp [World.setCell, Array.getElem?_modify, h]
  obtain ⟨c', k1, k2, k3, k4, k5, k6, k7⟩ := nf d (w.setCell ⟨b, off, none⟩ v) b (off + 1) _ t h1 (by simp; omega)
  refine ⟨c', k1, ?_, fun g hg => ?_, ?_, k5, k6, k7⟩
  ·rw [k2, Array.toList_setIfInBounds]
   obtain ⟨x, y, z, e, hx⟩ : ∃ (x : List Value) (y : Value) (z : List Value), c.toList = x ++ y :: z ∧ x.length = off := by
    have hlt : off < c.toList.length := by simp; omega
    exact ⟨c.toList.take off, c.toList[off], c.toList.drop (off + 1), by rw [← b9 hlt, bE], by simp; omega⟩
   rw [e, ← hx]
   have e1 : (x ++ y :: z).set x.length v = x ++ ([v] ++ z) := by simp
   have e2 : x ++ y :: z = x ++ ([y] ++ z) := by simp
   rw [e1, e2]
   have a1 := iM (c1 := x) (c2 := [v] ++ z) (d := d) (o := 1)
   have a2 := iM (c1 := x) (c2 := [y] ++ z) (d := v :: d) (o := 0)
   rw [a1]
   rw [cu] at a2
   rw [a2]
   simp [dK, List.drop_succ_cons, bS]
  ·rw [World.setCells, k3 g hg]
   simp [World.setCell, Array.getElem?_modify, Ne.symm hg]
  ·rw [World.setCells, k4]
   simp [World.setCell]
end
end Go.Proofs.Dk
