/- A part of the proofs: A reader of the program's code: what a piece of code makes of values that are known but for their nu -/
import Derived.Control
import Derived.Calls
import Derived.Laws.Sem
import Derived.Orders
import Derived.Maps.AppendAt
import Derived.Deep.MidRow
import Derived.Below
import Derived.Laws.Entries
import Derived.Deep.Quiet
import Derived.Laws.StructEq
import Derived.ChangeKeysEq
import Derived.Deep.Slices
import Derived.Laws.MakeOwn
/- A reader of the program's code: what a piece of code makes of values that are known but for their numbers. -/
namespace Go.Proofs.Dk
open Go

inductive Sh where
  | int (k : IntKind)
  | bool
  | str
  | pair (a b : Sh)
  | sl (e : Sh)
  | arr (n : Nat) (e : Sh)
  deriving Inhabited
@[reducible] def Sh.T : Sh → Type
  | .int _ => Int
  | .bool => Bool
  | .str => ByteArray
  | .pair a b => a.T × b.T
  | .sl e => List e.T
  | .arr _ e => List e.T
def Sh.sz : Sh → Nat
  | .pair a b => a.sz + b.sz
  | .arr n e => n * e.sz
  | _ => 1
def Sh.dflt : (s : Sh) → s.T
  | .int _ => (0 : Int)
  | .bool => false
  | .str => ByteArray.empty
  | .pair a b => (a.dflt, b.dflt)
  | .sl _ => []
  | .arr n e => List.replicate n e.dflt
def Sh.same : (a b : Sh) → Option (PLift (a = b))
  | .int k, .int k' => if h : k = k' then some ⟨by rw [h]⟩ else none
  | .bool, .bool => some ⟨rfl⟩
  | .str, .str => some ⟨rfl⟩
  | .pair a b, .pair a' b' => match a.same a', b.same b' with | some ⟨h⟩, some ⟨h'⟩ => some ⟨by rw [h, h']⟩ | _, _ => none
  | .sl e, .sl e' => match e.same e' with | some ⟨h⟩ => some ⟨by rw [h]⟩ | _ => none
  | .arr n e, .arr n' e' => if g : n = n' then match e.same e' with | some ⟨h⟩ => some ⟨by rw [g, h]⟩ | _ => none else none
  | _, _ => none
def Sh.multi : Sh → Bool
  | .pair _ _ | .arr _ _ => true
  | _ => false

inductive Ix where
  | ix (i m sz : Nat)
  | off (k : Nat)

inductive DV where
  | undef
  | sc (v : Value)
  | ptr (n : Nat) (o : Nat) (p : List Ix)
  | rp (n sz i : Nat) (p : List Ix)
  | pi (its : List DV)
  | rw (n : Nat)
  | sl (n : Nat) (o l : Nat)
  | vs (s : Sh) (xs : List s.T)
  | fn (F : Fn) (first caps : List DV)
  | arr (s : Sh) (n : Nat) (xs : List s.T)
  | agg (cs : List DV)
  | tup (vs : List DV)
  | tab (ks : List (List Int)) (vs : List DV)
  | mh (n : Nat)
  deriving Inhabited
def DV.wd : DV → Nat
  | .arr s n _ => n * s.sz
  | _ => 1
def DV.items : DV → List DV
  | .agg cs => cs
  | .arr s n xs => [.arr s n xs]
  | v => [v]
inductive Blk where
  | obj (cs : List DV)
  | row (E : TypeId) (s : Sh) (xs : List s.T)
  | mp (ks : List (List Int)) (vs : List DV)
abbrev Heap := Nat → Option Blk
def Heap.set (H : Heap) (n : Nat) (b : Option Blk) : Heap := fun m => if m = n then b else H m

def Sh.enc : (s : Sh) → s.T → List DV
  | .int k, n => [.sc (.int k n)]
  | .bool, b => [.sc (.bool b)]
  | .str, s => [.sc (.string s)]
  | .pair a b, x => a.enc x.1 ++ b.enc x.2
  | .sl e, xs => [.vs e xs]
  | .arr n e, xs => [.arr e n xs]
def Sh.val (s : Sh) (x : s.T) : DV := if s.multi then .agg (s.enc x) else ((s.enc x).head?).getD .undef
def decN {α : Type} (f : List DV → Option (α × List DV)) : Nat → List DV → Option (List α × List DV)
  | 0, r => some ([], r)
  | n + 1, r => match f r with
    | some (x, r) => match decN f n r with
      | some (xs, r) => some (x :: xs, r)
      | none => none
    | none => none
def Sh.dec : (s : Sh) → List DV → Option (s.T × List DV)
  | .int k, r => match r with | .sc (.int k' n) :: r => if k' = k then some (n, r) else none | _ => none
  | .bool, r => match r with | .sc (.bool b) :: r => some (b, r) | _ => none
  | .str, r => match r with | .sc (.string s) :: r => some (s, r) | _ => none
  | .pair a b, r => match a.dec r with
    | some (x, r) => match b.dec r with
      | some (y, r) => some ((x, y), r)
      | none => none
    | none => none
  | .sl e, r => match r with
    | .vs e' xs :: r => match e'.same e with | some ⟨h⟩ => some (h ▸ xs, r) | none => none
    | .sc (.slice none n _) :: r => if n = 0 then some ([], r) else none
    | _ => none
  | .arr n e, r => match r with
    | .arr e' n' xs :: r => if n' = n then match e'.same e with | some ⟨h⟩ => some (h ▸ xs, r) | none => none else none
    | r => decN e.dec n r
end Go.Proofs.Dk

/- The reader of the program's code. -/
namespace Go.Proofs.Dk
open Go

def dropD : Nat → List DV → Option (List DV)
  | o, [] => if o = 0 then some [] else none
  | o, d :: r => if o = 0 then some (d :: r) else if d.wd ≤ o then dropD (o - d.wd) r else none
def preD : Nat → List DV → List DV
  | _, [] => []
  | o, d :: r => if o = 0 then [] else d :: preD (o - d.wd) r
def takeD : Nat → List DV → Option (List DV)
  | n, [] => if n = 0 then some [] else none
  | n, d :: r => if n = 0 then some [] else if d.wd ≤ n then match takeD (n - d.wd) r with | some l => some (d :: l) | none => none else none
def putD : List DV → List DV → Option (List DV)
  | old, [] => some old
  | [], _ :: _ => none
  | .arr s n _ :: r, x :: new => match (Sh.arr n s).dec (x :: new) with
    | some (ys, new) => match putD r new with | some l => some (.arr s n ys :: l) | none => none
    | none => none
  | _ :: r, x :: new => match x with
    | .arr _ _ _ => none
    | x => match putD r new with | some l => some (x :: l) | none => none
def atD : List DV → List Ix → Option (List DV)
  | its, [] => some its
  | its, .off k :: p => match dropD k its with | some its => atD its p | none => none
  | its, .ix i m sz :: p => match its with
    | .arr s m' ys :: _ => if m' = m then if s.sz = sz then atD (s.enc (ys.getD i s.dflt)) p else none else none
    | _ => none
def setD (new : List DV) : List Ix → List DV → Option (List DV)
  | [], its => putD its new
  | .off k :: p, its => match dropD k its with
    | some r => match setD new p r with | some l => some (preD k its ++ l) | none => none
    | none => none
  | .ix i m sz :: p, its => match its with
    | .arr s m' ys :: r => if m' = m then if s.sz = sz then match setD new p (s.enc (ys.getD i s.dflt)) with
      | some its => match s.dec its with
        | some (y, []) => some (.arr s m' (ys.set i y) :: r)
        | _ => none
      | none => none else none else none
    | _ => none

def shapeL (f : TypeId → Option Sh) : List TypeId → Option Sh
  | [] => none
  | [t] => f t
  | t :: r => match f t, shapeL f r with | some a, some b => some (.pair a b) | _, _ => none
def shapeOf (P : Program) : Nat → TypeId → Option Sh
  | 0, _ => none
  | n + 1, t => match P.underlying t with
    | some (.int k) => some (.int k)
    | some .bool => some .bool
    | some .string => some .str
    | some (.slice e) => match shapeOf P n e with | some s => some (.sl s) | none => none
    | some (.array m e) => match shapeOf P n e with | some s => some (.arr m s) | none => none
    | some (.struct fs) => shapeL (shapeOf P n) (fs.toList.map (·.type))
    | _ => none
def layOf (P : Program) : Nat → TypeId → List (Option (Nat × Sh))
  | 0, _ => [none]
  | n + 1, t => match P.underlying t with
    | some (.array m e) => match shapeOf P 8 e with | some s => [some (m, s)] | none => (List.replicate m (layOf P n e)).flatten
    | some (.struct fs) => fs.toList.flatMap fun f => layOf P n f.type
    | _ => [none]
def layD : List (Option (Nat × Sh)) → List DV → Option (List DV)
  | [], its => match its with | [] => some [] | _ => none
  | none :: l, its => match its with
    | .arr _ _ _ :: _ => none
    | x :: r => match layD l r with | some l => some (x :: l) | none => none
    | [] => none
  | some (m, s) :: l, its => match (Sh.arr m s).dec its with
    | some (ys, r) => match layD l r with | some l => some (.arr s m ys :: l) | none => none
    | none => none
def multiT (P : Program) (t : TypeId) : Bool := match P.underlying t with | some (.struct _) | some (.array _ _) => true | _ => false
def sizeT (P : Program) (t : TypeId) : Nat := match P.info? t with | some i => i.size | none => 0
def bytesT (P : Program) (t : TypeId) : Nat := match P.info? t with | some i => i.bytes | none => 0
def valT (P : Program) (t : TypeId) (its : List DV) : Option DV :=
  if multiT P t then some (.agg its) else if (P.underlying t).isSome then match its with | [.arr _ _ _] => none | [v] => some v | _ => none else none
def ofV : Value → DV
  | .agg cs => if cs.toList.all (·.oneCell') then .agg (cs.toList.map .sc) else .undef
  | .tuple cs => if cs.toList.all (·.oneCell') then .tup (cs.toList.map .sc) else .undef
  | v => .sc v
def DV.storable : DV → Bool
  | .undef | .tup _ | .arr _ _ _ => false
  | _ => true
def zeroT (P : Program) (t : TypeId) : Option (List DV) := match P.info? t with
  | some i => match i.zero with | some v => if (ofV v).storable then layD (layOf P 8 t) (ofV v).items else none | none => none
  | none => none
def zeroK : Sh → List Value → Option (List Value)
  | .int k, cs => match cs with | .int k' n :: r => if k' = k then if n = 0 then some r else none else none | _ => none
  | .bool, cs => match cs with | .bool b :: r => if b then none else some r | _ => none
  | .str, cs => match cs with | .string s :: r => if s = ByteArray.empty then some r else none | _ => none
  | .pair a b, cs => match zeroK a cs with | some r => zeroK b r | none => none
  | .sl _, cs => match cs with | .slice none n _ :: r => if n = 0 then some r else none | _ => none
  | .arr n e, cs => zeroN (zeroK e) n cs
where
  zeroN (f : List Value → Option (List Value)) : Nat → List Value → Option (List Value)
    | 0, cs => some cs
    | n + 1, cs => match f cs with | some r => zeroN f n r | none => none
def zeroOk (P : Program) (e : TypeId) (s : Sh) : Bool := match P.info? e with
  | some i => i.size == s.sz && decide (0 < s.sz) && (match i.zero with | some v => (match zeroK s v.cells.toList with | some r => r.isEmpty | none => false) | none => false)
  | none => false
def evO (T : List DV) : Operand → DV
  | .tmp t => T.getD t .undef
  | .const v => ofV v
  | .global _ => .undef
  | .func f => .fn (.func f) [] []
def putT (T : List DV) (d : Option Tmp) (v : DV) : List DV := match d with | some d => T.set d v | none => T
def pureSem {α : Type} (P : Program) : Sem α → Option α
  | .pure a => some a
  | .program k => pureSem P (k P)
  | _ => none

inductive Sub where
  | none
  | vs (s : Sh) (xs : List s.T)
def Sub.whole : Sub → DV
  | .none => .undef
  | .vs s xs => .vs s xs
def Sub.part (o l : Nat) : Sub → DV
  | .none => .undef
  | .vs s xs => .vs s ((xs.drop o).take l)
mutual
def DV.sub (n : Nat) (g : Sub) : DV → DV
  | .rp m sz i p => if m = n then .undef else .rp m sz i p
  | .rw m => if m = n then g.whole else .rw m
  | .sl m o l => if m = n then g.part o l else .sl m o l
  | .fn F a b => .fn F (subL n g a) (subL n g b)
  | .agg cs => .agg (subL n g cs)
  | .tup cs => .tup (subL n g cs)
  | .tab ks vs => .tab ks (subL n g vs)
  | v => v
def subL (n : Nat) (g : Sub) : List DV → List DV
  | [] => []
  | d :: r => d.sub n g :: subL n g r
end
def Blk.sub (n : Nat) (g : Sub) : Blk → Blk
  | .obj cs => .obj (subL n g cs)
  | .mp ks vs => .mp ks (subL n g vs)
  | b => b
def Heap.sub (n : Nat) (g : Sub) (H : Heap) : Heap := fun m => if m = n then none else match H m with | some b => some (b.sub n g) | none => none
mutual
def DV.bare : DV → DV
  | .rp _ _ _ _ => .undef
  | .rw _ => .undef
  | .sl _ _ _ => .undef
  | .fn F a b => .fn F (bareL a) (bareL b)
  | .agg cs => .agg (bareL cs)
  | .tup cs => .tup (bareL cs)
  | .tab ks vs => .tab ks (bareL vs)
  | v => v
def bareL : List DV → List DV
  | [] => []
  | d :: r => d.bare :: bareL r
end
def rowIn : DV → List Nat
  | .rw n => [n]
  | .sl n _ _ => [n]
  | _ => []
def rowsIn : DV → List Nat
  | .agg cs => cs.flatMap rowIn
  | .tup cs => cs.flatMap rowIn
  | d => rowIn d
def solid : List Nat → List DV → List DV → Heap → List DV × List DV × Heap
  | [], A, T, H => (A, T, H)
  | n :: r, A, T, H => match H n with
    | some (.row _ s xs) => solid r (subL n (.vs s xs) A) (subL n (.vs s xs) T) (H.sub n (.vs s xs))
    | _ => solid r A T H
def solidA (A T : List DV) (H : Heap) : List DV × List DV × Heap := solid (A.flatMap rowsIn) A T H
def fresh (H : Heap) : Nat → Nat → Nat
  | 0, b => b
  | k + 1, b => match H b with | none => b | some _ => fresh H k (b + 1)
def base (d : Nat) (t : Option Tmp) : Nat := 1000000 + (d * 1000 + t.getD 0) * 64
def elemsD (H : Heap) (s : Sh) : DV → Option (List s.T)
  | .vs s' xs => match s'.same s with | some ⟨h⟩ => some (h ▸ xs) | none => none
  | .sc (.slice none n _) => if n = 0 then some [] else none
  | .rw n => match H n with | some (.row _ s' xs) => (match s'.same s with | some ⟨h⟩ => some (h ▸ xs) | none => none) | _ => none
  | .sl n o l => match H n with | some (.row _ s' xs) => (match s'.same s with | some ⟨h⟩ => some ((h ▸ xs : List s.T).drop o |>.take l) | none => none) | _ => none
  | _ => none
def lenD (P : Program) (t : TypeId) (H : Heap) (x : DV) : Option Nat := match P.underlying t with
  | some .string => match x with | .sc (.string s) => some s.size | _ => none
  | some (.slice _) => match x with
    | .sc (.slice none n _) => if n = 0 then some 0 else none
    | .vs _ xs => some xs.length
    | .rw n => match H n with | some (.row _ _ xs) => some xs.length | _ => none
    | .sl _ _ l => some l
    | _ => none
  | some (.array n _) => some n
  | _ => none
end Go.Proofs.Dk

/- The reader of the program's code: pieces, operations, calls. -/
namespace Go.Proofs.Dk
open Go

inductive IK where
  | any
  | val (s : Sh)
  | row (E : TypeId) (s : Sh)
  | obj (i : Nat)
  | clo (F : FuncId) (caps : List Nat)
  | agf (s : Sh) (F : FuncId)
  | tab (ks : List (List Int)) (vs : List DV)
@[reducible] def Tup : List IK → Type
  | [] => Unit
  | .val s :: r => s.T × Tup r
  | .row _ s :: r => List s.T × Tup r
  | .agf s _ :: r => s.T × Tup r
  | _ :: r => Tup r
@[reducible] def TupO : List (List IK) → Type
  | [] => Unit
  | k :: r => Tup k × TupO r
@[reducible] def pad (n : Nat) (l : List IK) : List IK := l ++ List.replicate (n - l.length) .any
structure Tmpl where
  ks : List IK
  os : List (List IK)
@[reducible] def Tmpl.Ty (t : Tmpl) : Type := Tup t.ks × TupO t.os
structure Nam where
  o : Nat → Nat
  r : Nat → Nat
def mkT (ρ : Nam) : Nat → (ks : List IK) → Tup ks → List DV
  | _, [], _ => []
  | c, .any :: r, x => .undef :: mkT ρ (c + 1) r x
  | c, .val s :: r, x => s.val x.1 :: mkT ρ (c + 1) r x.2
  | c, .row _ _ :: r, x => .rw (ρ.r c) :: mkT ρ (c + 1) r x.2
  | c, .agf s F :: r, x => .agg (s.enc x.1 ++ [.fn (.func F) [] []]) :: mkT ρ (c + 1) r x.2
  | c, .obj i :: r, x => .ptr (ρ.o i) 0 [] :: mkT ρ (c + 1) r x
  | c, .clo F is :: r, x => .fn (.func F) [] (is.map fun i => .ptr (ρ.o i) 0 []) :: mkT ρ (c + 1) r x
  | c, .tab ks vs :: r, x => .tab ks vs :: mkT ρ (c + 1) r x
def mkC (ρ : Nam) : Nat → (ks : List IK) → Tup ks → List DV
  | _, [], _ => []
  | c, .any :: r, x => .undef :: mkC ρ (c + 1) r x
  | c, .val s :: r, x => s.enc x.1 ++ mkC ρ (c + 1) r x.2
  | c, .row _ _ :: r, x => .rw (ρ.r c) :: mkC ρ (c + 1) r x.2
  | c, .agf s F :: r, x => (s.enc x.1 ++ [.fn (.func F) [] []]) ++ mkC ρ (c + 1) r x.2
  | c, .obj i :: r, x => .ptr (ρ.o i) 0 [] :: mkC ρ (c + 1) r x
  | c, .clo F is :: r, x => .fn (.func F) [] (is.map fun i => .ptr (ρ.o i) 0 []) :: mkC ρ (c + 1) r x
  | c, .tab ks vs :: r, x => .tab ks vs :: mkC ρ (c + 1) r x
def mkR (ρ : Nam) : Nat → (ks : List IK) → Tup ks → Heap → Heap
  | _, [], _, H => H
  | c, .val _ :: r, x, H => mkR ρ (c + 1) r x.2 H
  | c, .agf _ _ :: r, x, H => mkR ρ (c + 1) r x.2 H
  | c, .row E s :: r, x, H => mkR ρ (c + 1) r x.2 (H.set (ρ.r c) (some (.row E s x.1)))
  | c, .any :: r, x, H => mkR ρ (c + 1) r x H
  | c, .obj _ :: r, x, H => mkR ρ (c + 1) r x H
  | c, .clo _ _ :: r, x, H => mkR ρ (c + 1) r x H
  | c, .tab _ _ :: r, x, H => mkR ρ (c + 1) r x H
def mkO (ρ : Nam) : Nat → (os : List (List IK)) → TupO os → Heap → Heap
  | _, [], _, H => H
  | i, k :: r, x, H => mkO ρ (i + 1) r x.2 (mkR ρ (1000 * (i + 1)) k x.1 (H.set (ρ.o i) (some (.obj (mkC ρ (1000 * (i + 1)) k x.1)))))
def Tmpl.T (t : Tmpl) (ρ : Nam) (x : t.Ty) : List DV := mkT ρ 0 t.ks x.1
def Tmpl.H (t : Tmpl) (ρ : Nam) (x : t.Ty) (H : Heap) : Heap := mkR ρ 0 t.ks x.1 (mkO ρ 0 t.os x.2 H)

structure Met where
  σ : List (Nat × Nat)
  u : List Nat
def Met.get (m : Met) (i : Nat) : Option Nat := (m.σ.find? fun e => e.1 == i).map (·.2)
def rowOf (H : Heap) (E : TypeId) (s : Sh) : DV → Option (List s.T × List Nat)
  | .sc (.slice none n c) => if n = 0 then if c = 0 then some ([], []) else none else none
  | .rw n => match H n with
    | some (.row E' s' xs) => if E' = E then match s'.same s with | some ⟨h⟩ => some (h ▸ xs, [n]) | none => none else none
    | _ => none
  | .sl n o l => match H n with
    | some (.row E' s' xs) => if o = 0 then if E' = E then match s'.same s with | some ⟨h⟩ => some ((h ▸ xs : List s.T).take l, [n]) | none => none else none else none
    | _ => none
  | _ => none
def prP : List Nat → List DV → Met → Option Met
  | [], l, m => if l.isEmpty then some m else none
  | i :: r, l, m => match l with
    | .ptr n 0 [] :: l => match m.get i with
      | some n' => if n = n' then prP r l m else none
      | none => prP r l ⟨(i, n) :: m.σ, m.u⟩
    | _ => none
def valOf (s : Sh) (d : DV) : Option s.T := if s.multi then (match d with
    | .agg cs => match s.dec cs with | some (x, []) => some x | _ => none
    | _ => none)
  else match s.dec [d] with | some (x, []) => some x | _ => none
def prT (H : Heap) : (ks : List IK) → List DV → Met → Option (Tup ks × Met)
  | [], T, m => match T with
    | [] => some ((), m)
    | _ => none
  | .any :: r, T, m => match T with
    | _ :: T => prT H r T m
    | [] => none
  | .val s :: r, T, m => match T with
    | d :: T => match valOf s d with
      | some x => match prT H r T m with | some (y, m) => some ((x, y), m) | none => none
      | none => none
    | [] => none
  | .agf s F :: r, T, m => match T with
    | .agg cs :: T => match s.dec cs with
      | some (x, [.fn (.func F') [] []]) => if F' = F then match prT H r T m with | some (y, m) => some ((x, y), m) | none => none else none
      | _ => none
    | _ => none
  | .row E s :: r, T, m => match T with
    | d :: T => match rowOf H E s d with
      | some (xs, u) => match prT H r T ⟨m.σ, u ++ m.u⟩ with | some (y, m) => some ((xs, y), m) | none => none
      | none => none
    | [] => none
  | .obj i :: r, T, m => match T with
    | .ptr n 0 [] :: T => match m.get i with
      | some n' => if n = n' then prT H r T m else none
      | none => prT H r T ⟨(i, n) :: m.σ, m.u⟩
    | _ => none
  | .clo F is :: r, T, m => match T with
    | .fn (.func F') [] caps :: T => if F' = F then match prP is caps m with | some m => prT H r T m | none => none else none
    | _ => none
  | .tab _ _ :: _, _, _ => none
def prC (H : Heap) : (ks : List IK) → List DV → Met → Option (Tup ks × Met)
  | [], T, m => match T with
    | [] => some ((), m)
    | _ => none
  | .any :: r, T, m => match T with
    | .arr _ _ _ :: _ => none
    | _ :: T => prC H r T m
    | [] => none
  | .val s :: r, T, m => match s.dec T with
    | some (x, T) => match prC H r T m with | some (y, m) => some ((x, y), m) | none => none
    | none => none
  | .agf s F :: r, T, m => match s.dec T with
    | some (x, .fn (.func F') [] [] :: T) => if F' = F then match prC H r T m with | some (y, m) => some ((x, y), m) | none => none else none
    | _ => none
  | .row E s :: r, T, m => match T with
    | d :: T => match rowOf H E s d with
      | some (xs, u) => match prC H r T ⟨m.σ, u ++ m.u⟩ with | some (y, m) => some ((xs, y), m) | none => none
      | none => none
    | [] => none
  | .obj i :: r, T, m => match T with
    | .ptr n 0 [] :: T => match m.get i with
      | some n' => if n = n' then prC H r T m else none
      | none => prC H r T ⟨(i, n) :: m.σ, m.u⟩
    | _ => none
  | .clo F is :: r, T, m => match T with
    | .fn (.func F') [] caps :: T => if F' = F then match prP is caps m with | some m => prC H r T m | none => none else none
    | _ => none
  | .tab _ _ :: _, _, _ => none
def prO (H : Heap) : Nat → (os : List (List IK)) → Met → Option (TupO os × Met)
  | _, [], m => some ((), m)
  | i, k :: r, m => match m.get i with
    | some n => match H n with
      | some (.obj cs) => match prC H k cs m with
        | some (x, m) => match prO H (i + 1) r m with | some (y, m) => some ((x, y), m) | none => none
        | none => none
      | _ => none
    | none => none
def nodupB : List Nat → Bool
  | [] => true
  | a :: r => !r.contains a && nodupB r
def idMet (n : Nat) : Met := ⟨(List.range n).map fun i => (i, i), []⟩
def Tmpl.pr (t : Tmpl) (m0 : Met) (T : List DV) (H : Heap) : Option (t.Ty × Met) := match prT H t.ks T m0 with
  | some (x, m) => match prO H 0 t.os m with
    | some (y, m) => if nodupB (m.u ++ m.σ.map (·.2)) && nodupB (m.σ.map (·.1)) && m.σ.all (fun e => decide (e.1 < t.os.length)) then some ((x, y), m) else none
    | none => none
  | none => none

def rnames (ρ : Nam) : Nat → List IK → List Nat
  | _, [] => []
  | c, .row _ _ :: r => ρ.r c :: rnames ρ (c + 1) r
  | c, _ :: r => rnames ρ (c + 1) r
def onames (ρ : Nam) : Nat → List (List IK) → List Nat
  | _, [] => []
  | i, k :: r => ρ.o i :: (rnames ρ (1000 * (i + 1)) k ++ onames ρ (i + 1) r)
def Tmpl.names (t : Tmpl) (ρ : Nam) : List Nat := rnames ρ 0 t.ks ++ onames ρ 0 t.os
def Tmpl.free (t : Tmpl) (ρ : Nam) (H : Heap) : Bool := nodupB (t.names ρ) && (t.names ρ).all fun n => (H n).isNone
inductive Ex where
  | norm
  | exit (id : Nat)
  | goto (l : Nat)
  | ret
@[reducible] def OutTy : List (Ex × Tmpl) → Type
  | [] => Empty
  | [e] => e.2.Ty
  | e :: r => e.2.Ty ⊕ OutTy r
def outK {α : Type} : (os : List (Ex × Tmpl)) → OutTy os → (Ex → (t : Tmpl) → t.Ty → Option α) → Option α
  | [], _, _ => none
  | [e], y, k => k e.1 e.2 y
  | e :: f :: r, y, k => match y with
    | .inl y => k e.1 e.2 y
    | .inr y => outK (f :: r) y k
structure Loop where
  tin : Tmpl
  outs : List (Ex × Tmpl)
  X : Type
  into : X → tin.Ty
  back : tin.Ty → X
  R : Type
  out : R → OutTy outs
  inn : OutTy outs → R
  fn : X → Option R
structure FS where
  tin : Tmpl
  tout : Tmpl
  R : Type
  out : R → tout.Ty
  inn : tout.Ty → R
  fn : tin.Ty → Option R
def pureK : List IK → Bool
  | [] => true
  | .row _ _ :: _ | .obj _ :: _ | .clo _ (_ :: _) :: _ => false
  | _ :: r => pureK r
def FS.pure (S : FS) : Bool := pureK S.tin.ks && S.tin.os.isEmpty && pureK S.tout.ks && S.tout.os.isEmpty
structure Cx where
  P : Program
  loops : FuncId → Nat → Option Loop
  specs : FuncId → List FS
  tabs : FuncId → Option (Nat × List (List Int) × List FuncId)
def outNam (H : Heap) (b : Nat) (m : Met) : Nam := ⟨fun i => match m.get i with | some n => n | none => fresh H 63 (b + 64 * (400000 + i)), fun c => fresh H 63 (b + 64 * c)⟩
def Heap.away (m : Met) (H : Heap) : Heap := fun n => if m.σ.any (fun e => e.2 == n) then none else H n
def Heap.drops (u : List Nat) (H : Heap) : Heap := u.foldl (fun H n => H.sub n .none) H
def dropsL (u : List Nat) (T : List DV) : List DV := u.foldl (fun T n => subL n .none T) T
def firstRegion : Code → Nat
  | .region id _ _ => id
  | .seq a b => match a with | .skip | .label _ => firstRegion b | a => firstRegion a
  | .block _ c | .loop c | .scope c => firstRegion c
  | _ => 0
def nam0 : Nam := ⟨fun i => i, fun c => 100000 + c⟩
end Go.Proofs.Dk

/- The reader of the program's code: operations, pieces, calls. -/
namespace Go.Proofs.Dk
open Go

def strNums (xs : List Int) : ByteArray := ⟨(xs.map fun n => UInt8.ofNat n.toNat).toArray⟩
def numsStr (s : ByteArray) : List Int := s.data.toList.map fun b => (b.toNat : Int)
def bt (s : ByteArray) (i : Int) : Int := (s.data.toList.getD i.toNat 0).toNat
def Sh.eqT : (s : Sh) → s.T → s.T → Bool
  | .int _, (a : Int), b => a == b
  | .bool, (a : Bool), b => a == b
  | .str, (a : ByteArray), b => a.toList == b.toList
  | .pair x y, a, b => x.eqT a.1 b.1 && y.eqT a.2 b.2
  | .sl _, _, _ => false
  | .arr n e, a, b => (List.range n).all fun i => e.eqT (a.getD i e.dflt) (b.getD i e.dflt)
def cmpL (f : TypeId → Sh → Bool) (P : Program) : Nat → List Field → Sh → Bool
  | _, [], _ => false
  | o, [g], s => g.name != "_" && g.offset == o && f g.type s
  | o, g :: r, .pair a b => g.name != "_" && g.offset == o && f g.type a && cmpL f P (o + a.sz) r b
  | _, _, _ => false
def cmpT (P : Program) : Nat → TypeId → Sh → Bool
  | 0, _, _ => false
  | d + 1, t, s => sizeT P t == s.sz && decide (0 < s.sz) && match P.underlying t, s with
    | some (.int k), .int k' => k == k'
    | some .bool, .bool => true
    | some .string, .str => true
    | some (.struct fs), s => !P.stoodInHeld t && cmpL (cmpT P d) P 0 fs.toList s
    | some (.array m e), .arr n s => m == n && cmpT P d e s
    | _, _ => false
def eqD (P : Program) (t : TypeId) (a b : List DV) : Option Bool := match shapeOf P 8 t with
  | some s => if multiT P t && cmpT P 8 t s && !P.eqGuardType P.depth t then match s.dec a, s.dec b with
    | some (x, []), some (y, []) => some (s.eqT x y)
    | _, _ => none else none
  | none => none
section
variable {α : Type} (P : Program)
def szOk (e : TypeId) (sz : Nat) : Bool := match P.info? e with
  | some i => i.size == sz
  | none => false
def binK (op : BinOp) (t : TypeId) (a b : DV) (k : DV → Option α) : Option α :=
  match a, b with
  | .sc (.int ka a), .sc (.int kb b) => match op with
    | .quo => if ka = kb then if b == 0 then none else k (.sc (.int ka (ka.wrap (a.tdiv b)))) else none
    | .rem => if ka = kb then if b == 0 then none else k (.sc (.int ka (a.tmod b))) else none
    | .shl => if decide (b < 0) then none else k (.sc (.int ka (ka.wrap (a * 2 ^ (min b.toNat ka.bits)))))
    | .shr => if decide (b < 0) then none else k (.sc (.int ka (a.fdiv (2 ^ (min b.toNat ka.bits)))))
    | op => match pureSem P (binOp op t (.int ka a) (.int kb b)) with | some v => k (.sc v) | none => none
  | .sc (.string a), .sc (.string b) => match op with
    | .add => if decide (a.size + b.size ≤ 140737488351232) then k (.sc (.string (a ++ b))) else none
    | op => match pureSem P (Op.stringOp op a b) with | some v => k (.sc v) | none => none
  | .sc (.bool a), .sc (.bool b) => match op with
    | .eql => match P.underlying t with | some .bool => k (.sc (.bool (a == b))) | _ => none
    | .neq => match P.underlying t with | some .bool => k (.sc (.bool (a != b))) | _ => none
    | _ => none
  | .agg xs, .agg ys => match op with
    | .eql => match eqD P t xs ys with | some c => k (.sc (.bool c)) | none => none
    | .neq => match eqD P t xs ys with | some c => k (.sc (.bool !c)) | none => none
    | _ => none
  | .ptr _ _ _, .sc (.pointer none) => match op with
    | .eql => match P.underlying t with | some (.pointer _) => k (.sc (.bool false)) | _ => none
    | .neq => match P.underlying t with | some (.pointer _) => k (.sc (.bool true)) | _ => none
    | _ => none
  | .rp _ _ _ _, .sc (.pointer none) => match op with
    | .eql => match P.underlying t with | some (.pointer _) => k (.sc (.bool false)) | _ => none
    | .neq => match P.underlying t with | some (.pointer _) => k (.sc (.bool true)) | _ => none
    | _ => none
  | .sc (.pointer none), .sc (.pointer none) => match op with
    | .eql => match P.underlying t with | some (.pointer _) => k (.sc (.bool true)) | _ => none
    | .neq => match P.underlying t with | some (.pointer _) => k (.sc (.bool false)) | _ => none
    | _ => none
  | _, _ => none
def inB (i : Int) (n : Nat) : Bool := decide (0 ≤ i) && decide (i < (n : Int))
def elemOk (t : TypeId) (sz : Nat) : Bool := match P.underlying t with
  | some (.slice e) => szOk P e sz
  | _ => false
def idxAddrK (t : TypeId) (H : Heap) (x : DV) (i : Int) (k : DV → Option α) : Option α := match x with
  | .vs s xs => if elemOk P t s.sz then if inB i xs.length then k (.pi (s.enc (xs.getD i.toNat s.dflt))) else none else none
  | .rw n => match H n with
    | some (.row _ s xs) => if elemOk P t s.sz then if inB i xs.length then k (.rp n s.sz i.toNat []) else none else none
    | _ => none
  | .sl n o l => match H n with
    | some (.row _ s _) => if elemOk P t s.sz then if inB i l then k (.rp n s.sz (o + i.toNat) []) else none else none
    | _ => none
  | .ptr n o p => match P.underlying t with
    | some (.array m e) => match H n with
      | some (.obj cs) => match dropD o cs with
        | some its => match atD its p with
          | some (.arr s m' _ :: _) => if m' = m then if szOk P e s.sz then if inB i m then k (.ptr n o (p ++ [.ix i.toNat m s.sz])) else none else none else none
          | some _ => match p with | [] => if szOk P e (sizeT P e) then if inB i m then k (.ptr n (o + i.toNat * sizeT P e) []) else none else none | _ => none
          | none => none
        | none => none
      | _ => none
    | _ => none
  | .pi its => match P.underlying t with
    | some (.array m e) => match its with
      | .arr s m' ys :: _ => if m' = m then if szOk P e s.sz then if inB i m then k (.pi (s.enc (ys.getD i.toNat s.dflt))) else none else none else none
      | _ => none
    | _ => none
  | _ => none
def indexK (t : TypeId) (x : DV) (i : Int) (k : DV → Option α) : Option α := match x with
  | .sc (.string s) => match P.underlying t with | some .string => if inB i s.size then k (.sc (.int .u8 (bt s i))) else none | _ => none
  | .agg cs => match P.underlying t with
    | some (.array m e) => match cs with
      | [.arr s m' ys] => if m' = m then if sizeT P e = s.sz then if inB i m then match valT P e (s.enc (ys.getD i.toNat s.dflt)) with | some v => k v | none => none else none else none else none
      | cs => if inB i m then match dropD (i.toNat * sizeT P e) cs with
        | some r => match takeD (sizeT P e) r with
          | some its => match valT P e its with | some v => k v | none => none
          | none => none
        | none => none else none
    | _ => none
  | _ => none
def loadD (t : TypeId) (H : Heap) : DV → Option DV
  | .ptr n o p => match H n with
    | some (.obj cs) => match atD cs (.off o :: p) with
      | some its => match takeD (sizeT P t) its with | some its => valT P t its | none => none
      | none => none
    | _ => none
  | .rp n sz i p => match H n with
    | some (.row _ s xs) => if s.sz = sz then match atD (s.enc (xs.getD i s.dflt)) p with
      | some its => match takeD (sizeT P t) its with | some its => valT P t its | none => none
      | none => none else none
    | _ => none
  | .pi its => match takeD (sizeT P t) its with | some its => valT P t its | none => none
  | _ => none
def widthL : List DV → Nat
  | [] => 0
  | d :: r => d.wd + widthL r
def storeD (t : TypeId) (H : Heap) (a : DV) (v : DV) : Option (Nat × Blk) :=
  if v.storable = true then if szOk P t (widthL v.items) then match a with
  | .ptr n o p => match H n with
    | some (.obj cs) => match setD v.items (.off o :: p) cs with
      | some cs => some (n, .obj cs)
      | none => none
    | _ => none
  | .rp n sz i p => match H n with
    | some (.row E s xs) => if s.sz = sz then match setD v.items p (s.enc (xs.getD i s.dflt)) with
      | some its => match s.dec its with
        | some (y, []) => some (n, .row E s (xs.set i y))
        | _ => none
      | none => none else none
    | _ => none
  | _ => none else none else none
def fieldOf (t : TypeId) (f : Nat) : Option (Nat × TypeId) := match P.underlying t with
  | some (.struct fs) => match fs[f]? with | some g => if sizeT P g.type = 0 then none else some (g.offset, g.type) | none => none
  | _ => none
def fieldAddrD (t : TypeId) (x : DV) (f : Nat) : Option DV := match fieldOf P t f with
  | some (o, _) => match x with
    | .ptr n o' p => match p with | [] => some (.ptr n (o' + o) []) | p => some (.ptr n o' (p ++ [.off o]))
    | .rp n sz i p => some (.rp n sz i (p ++ [.off o]))
    | .pi its => match dropD o its with | some its => some (.pi its) | none => none
    | _ => none
  | none => none
def fieldD (t : TypeId) (x : DV) (f : Nat) : Option DV := match fieldOf P t f with
  | some (o, u) => match x with
    | .agg cs => match dropD o cs with
      | some r => match takeD (sizeT P u) r with | some its => valT P u its | none => none
      | none => none
    | _ => none
  | none => none
def fillD (place : Nat → Option (List Ix × Nat)) : List (Nat × DV) → List DV → Option (List DV)
  | [], cs => some cs
  | (i, v) :: r, cs => match (if v.storable then place i else none) with
    | some (p, n) => if widthL v.items = n then match setD v.items p cs with | some cs => fillD place r cs | none => none else none
    | none => none
def placeD (t : TypeId) (i : Nat) : Option (List Ix × Nat) := match P.underlying t with
  | some (.struct fs) => if fs.toList.all (fun f => (P.info? f.type).isSome) then match fs[i]? with | some g => some ([.off g.offset], sizeT P g.type) | none => none else none
  | some (.array m e) => if szOk P e (sizeT P e) then match shapeOf P 8 e with
    | some s => if i < m then if s.sz = sizeT P e then some ([.ix i m s.sz], s.sz) else none else none
    | none => some ([.off (i * sizeT P e)], sizeT P e) else none
  | _ => none
def okBuild (t : TypeId) : Bool := match P.underlying t with
  | some (.struct fs) => fs.toList.all fun f => (P.info? f.type).isSome
  | some (.array _ e) => szOk P e (sizeT P e)
  | _ => false
def decL (s : Sh) : List DV → Option (List s.T)
  | [] => some []
  | v :: r => match (if v.storable then s.dec v.items else none) with
    | some (y, []) => match decL s r with | some l => some (y :: l) | none => none
    | _ => none
def boundK (x : DV) (n : Nat) (k : Nat → Option α) : Option α := match x with
  | .sc (.int _ i) => if decide (0 ≤ i) && decide (i ≤ (n : Int)) then k i.toNat else none
  | _ => none
def lowK (lo : Option DV) (k : Nat → Nat → Option α) (h : Nat) : Option α := match lo with
  | some v => boundK v h fun l => k l h
  | none => k 0 h
def boundsK (n : Nat) (lo hi : Option DV) (k : Nat → Nat → Option α) : Option α := match hi with
  | some v => boundK v n (lowK lo k)
  | none => lowK lo k n
def sliceK (t : TypeId) (H : Heap) (x : DV) (lo hi mx : Option DV) (k : DV → Option α) : Option α := match mx with
  | some _ => none
  | none => match P.underlying t, x with
    | some .string, .sc (.string s) => boundsK s.size lo hi fun l h => k (.sc (.string (s.extract l h)))
    | some (.slice e), .vs s xs => if szOk P e s.sz then boundsK xs.length lo hi fun l h => k (.vs s ((xs.take h).drop l)) else none
    | some (.slice e), .rw n => match H n with
      | some (.row E s xs) => if E = e then if szOk P e s.sz then boundsK xs.length lo hi fun l h => k (.sl n l (h - l)) else none else none
      | _ => none
    | some (.slice e), .sl n o m => match H n with
      | some (.row E s _) => if E = e then if szOk P e s.sz then boundsK m lo hi fun l h => k (.sl n (o + l) (h - l)) else none else none
      | _ => none
    | _, _ => none
def pickK (c a b : DV) (k : DV → Option α) : Option α := match c with
  | .sc (.bool t) => match a, b with
    | .sc (.bool x), .sc (.bool y) => k (.sc (.bool (if t then x else y)))
    | .sc (.int ka x), .sc (.int kb y) => if ka = kb then k (.sc (.int ka (if t then x else y))) else none
    | a, b => if t then k a else k b
  | _ => none
def minF (k : IntKind) : Int → List DV → Option DV
  | x, [] => some (.sc (.int k x))
  | x, d :: r => match d with
    | .sc (.int k' y) => if k' = k then minF k (if y < x then y else x) r else none
    | _ => none
def maxF (k : IntKind) : Int → List DV → Option DV
  | x, [] => some (.sc (.int k x))
  | x, d :: r => match d with
    | .sc (.int k' y) => if k' = k then maxF k (if y > x then y else x) r else none
    | _ => none
abbrev Actn := Option (Nat × Blk)
def Heap.act (H : Heap) : Actn → Heap
  | none => H
  | some (n, b) => H.set n (some b)
def allocK (d : Nat) (o : Oper) (H : Heap) (b : Blk) (v : Nat → DV) (k : DV → Actn → Option α) : Option α :=
  let n := fresh H 63 (base d o.dst)
  match H n with
  | some _ => none
  | none => k (v n) (some (n, b))
def appendK (d : Nat) (o : Oper) (E : TypeId) (s : Sh) (x : DV) (ys : List s.T) (T : List DV) (H : Heap) (k : List DV → Heap → Option α) : Option α := match x with
  | .sc (.slice none z c) => if decide (z = 0) && decide (c = 0) && decide (ys.length * bytesT P E ≤ 140737488355328) && decide (1 ≤ bytesT P E) then allocK d o H (.row E s ys) .rw fun v a => k (putT T o.dst v) (H.act a) else none
  | .rw n => match H n with
    | some (.row E' s' xs) => if E' = E then match s'.same s with
      | some ⟨h⟩ => if decide (((h ▸ xs : List s.T).length + ys.length) * bytesT P E ≤ 140737488355328) && decide (1 ≤ bytesT P E) then k (putT (subL n .none T) o.dst (.rw n)) ((H.sub n .none).set n (some (.row E s ((h ▸ xs : List s.T) ++ ys)))) else none
      | none => none else none
    | _ => none
  | .sl n z l => match H n with
    | some (.row E' s' xs) => if z = 0 then if E' = E then match s'.same s with
      | some ⟨h⟩ => if decide ((((h ▸ xs : List s.T).take l).length + ys.length) * bytesT P E ≤ 140737488355328) && decide (1 ≤ bytesT P E) then k (putT (subL n .none T) o.dst (.rw n)) ((H.sub n .none).set n (some (.row E s ((h ▸ xs : List s.T).take l ++ ys)))) else none
      | none => none else none else none
    | _ => none
  | _ => none
end
def pickD : List (List Int) → List DV → Int → Option DV
  | l :: ks, d :: vs, n => if (l.any fun x => n == x) = true then some d else pickD ks vs n
  | _, _, _ => none
def tabOf (H : Heap) : DV → Option (List (List Int) × List DV)
  | .tab ks vs => some (ks, vs)
  | .mh n => match H n with
    | some (.mp ks vs) => some (ks, vs)
    | _ => none
  | _ => none
def tabK {α : Type} : List (List Int) → List DV → DV → Int → (DV → Bool → Option α) → Option α
  | l :: ks, v :: vs, z, n, k => if (l.any fun x => n == x) = true then k v true else tabK ks vs z n k
  | _, _, z, _, k => k z false
abbrev K (α : Type) := List DV → Heap → Option α
def opE {α : Type} (P : Program) (d : Nat) (o : Oper) (T : List DV) (H : Heap) (k : DV → Actn → Option α) : Option α :=
  let ρ := evO T
  let v (x : DV) : Option α := k x none
  let ov (x : Option DV) : Option α := match x with | some x => k x none | none => none
  match o.op with
  | .move x | .assign x => v (ρ x)
  | .pick c a b => pickK (ρ c) (ρ a) (ρ b) v
  | .alloc e => match zeroT P e with | some its => allocK d o H (.obj its) (fun n => .ptr n 0 []) k | none => none
  | .box e x => match layD (layOf P 8 e) (ρ x).items with
    | some its => if (ρ x).storable = true then allocK d o H (.obj its) (fun n => .ptr n 0 []) k else none
    | none => none
  | .build t ps => match (if okBuild P t = true then zeroT P t else none) with
    | some its => match fillD (placeD P t) (ps.toList.map fun e => (e.1, ρ e.2)) its with
      | some its => v (.agg its)
      | none => none
    | none => none
  | .buildSlice t n ps => match P.underlying t with
    | some (.slice e) => match shapeOf P 8 e with
      | some s => if ps.toList.map (·.1) = List.range n then if szOk P e s.sz then match decL s (ps.toList.map fun e => ρ e.2) with
        | some xs => if n * s.sz ≤ 4096 then if (decide (0 < s.sz) && (n == 0 || (zeroT P e).isSome)) = true then allocK d o H (.row e s xs) .rw k else none else none
        | none => none else none else none
      | none => none
    | _ => none
  | .load t a => ov (loadD P t H (ρ a))
  | .store t a x => match storeD P t H (ρ a) (ρ x) with | some a => k .undef (some a) | none => none
  | .nilCheck x => match ρ x with
    | .ptr n o p => v (.ptr n o p)
    | .rp n sz i p => v (.rp n sz i p)
    | .pi its => v (.pi its)
    | .fn (.func g) a b => v (.fn (.func g) a b)
    | _ => none
  | .binOp op t x y _ => binK P op t (ρ x) (ρ y) v
  | .unOp op _ x => match op, ρ x with
    | .not, .sc (.bool b) => v (.sc (.bool !b))
    | .neg, .sc (.int k n) => v (.sc (.int k (k.wrap (0 - n))))
    | _, _ => none
  | .convert s t x => match P.underlying s, P.underlying t, ρ x with
    | some (.int _), some (.int k), .sc (.int _ n) => v (.sc (.int k (k.wrap n)))
    | some .string, some .string, .sc (.string s) => v (.sc (.string s))
    | some (.slice e), some .string, y => match P.underlying e with
      | some (.int .u8) => (match elemsD H (.int .u8) y with | some xs => v (.sc (.string (strNums xs))) | none => none)
      | _ => none
    | some .string, some (.slice e), .sc (.string s) => match P.underlying e with
      | some (.int .u8) => v (.vs (.int .u8) (numsStr s))
      | _ => none
    | _, _, _ => none
  | .makeFunc F a b => v (.fn F (a.toList.map ρ) (b.toList.map ρ))
  | .makeSlice t l c => match P.underlying t with
    | some (.slice e) => match shapeOf P 8 e, ρ l, ρ c with
      | some s, .sc (.int .i64 n), .sc (.int .i64 m) => if decide (0 ≤ n) && (n == m) && decide (n * (bytesT P e : Int) ≤ 140737488355328) && decide (1 ≤ bytesT P e) then if zeroOk P e s then allocK d o H (.row e s (List.replicate n.toNat s.dflt)) .rw k else none else none
      | _, _, _ => none
    | _ => none
  | .slice t x lo hi mx => sliceK P t H (ρ x) (lo.map ρ) (hi.map ρ) (mx.map ρ) v
  | .fieldAddr t x f => ov (fieldAddrD P t (ρ x) f)
  | .field t x f => ov (fieldD P t (ρ x) f)
  | .indexAddr t x i => match ρ i with | .sc (.int _ i) => idxAddrK P t H (ρ x) i v | _ => none
  | .index t x i => match ρ i with | .sc (.int _ i) => indexK P t (ρ x) i v | _ => none
  | .makeMap t none => match P.underlying t with
    | some (.map _ _) => allocK d o H (.mp [] []) .mh k
    | _ => none
  | .insert t m i x => match P.underlying t, ρ m, ρ i with
    | some (.map kt _), .mh n, .sc (.int .i64 j) => match P.underlying kt, H n with
      | some (.int .i64), some (.mp ks vs) => if (pickD ks vs j).isNone = true then k .undef (some (n, .mp ([j] :: ks) (ρ x :: vs))) else none
      | _, _ => none
    | _, _, _ => none
  | .lookup t x i c => match P.underlying t, tabOf H (ρ x), ρ i with
    | some (.map kt e), some (ks, vs), .sc (.int .i64 n) => match P.underlying kt, P.info? e with
      | some (.int .i64), some it => match it.zero with
        | some z => tabK ks vs (ofV z) n fun u b => v (if c then .tup [u, .sc (.bool b)] else u)
        | none => none
      | _, _ => none
    | _, _, _ => none
  | .extract x i => match ρ x with | .tup vs => ov vs[i]? | _ => none
  | .call c => match c.callee with
    | .builtin .len => match c.args.toList, c.argTypes[0]? with
      | [x], some t => (match lenD P t H (ρ x) with | some n => v (.sc (.int .i64 n)) | none => none)
      | _, _ => none
    | .builtin .min => match c.args.toList.map ρ with | .sc (.int k x) :: r => ov (minF k x r) | _ => none
    | .builtin .max => match c.args.toList.map ρ with | .sc (.int k x) :: r => ov (maxF k x r) | _ => none
    | _ => none
  | _ => none
def isRp : DV → Bool
  | .rp _ _ _ _ => true
  | _ => false
def opK {α : Type} (P : Program) (d : Nat) (o : Oper) (T : List DV) (H : Heap) (k : K α) : Option α :=
  match o.op with
  | .buildSlice _ _ ps => match solidA (ps.toList.map fun e => evO T e.2) T H with
    | (_, T, H) => opE P d o T H fun v a => k (putT T o.dst v) (H.act a)
  | .store _ x y => if isRp (evO T x) = true then (match solidA [evO T y] T H with
    | (_, T, H) => opE P d o T H fun v a => k (putT T o.dst v) (H.act a)) else opE P d o T H fun v a => k (putT T o.dst v) (H.act a)
  | .call c => match c.callee with
    | .builtin .append => match c.args.toList, c.argTypes.toList with
      | [x, y], [t, t'] => if t = t' then match P.underlying t with
        | some (.slice e) => match shapeOf P 8 e with
          | some s => if zeroOk P e s then match elemsD H s (evO T y) with
            | some ys => appendK P d o e s (evO T x) ys T H k
            | none => none else none
          | none => none
        | _ => none else none
      | _, _ => none
    | _ => opE P d o T H fun v a => k (putT T o.dst v) (H.act a)
  | _ => opE P d o T H fun v a => k (putT T o.dst v) (H.act a)

section
variable {α : Type} (cx : Cx)
def entersB (P : Program) (f : FuncId) : Bool := match P.funcs[f]? with
  | some fn => fn.name != "runtime.NumGoroutine" && fn.body.isSome
  | none => false
abbrev CallK (α : Type) := FuncId → List DV → Heap → (DV → Heap → Option (List Nat) → Option α) → Option α
def keepT (T : List DV) : Option (List Nat) → List DV
  | some u => dropsL u T
  | none => bareL T
def rawArgs (g : FuncId) : Bool := false
def evOps (call : CallK α) (d : Nat) (ops : Array Oper) : List Oper → List DV → Heap → K α → Option α
  | [], T, H, k => k T H
  | o :: r, T, H, k =>
    let run (T : List DV) : Option α := match o.op with
      | .call c => match c.callee with
        | .value f => match evO T f with
          | .fn (.func g) a b => match (if rawArgs g = true then (a ++ c.args.toList.map (evO T) ++ b, T, H) else solidA (a ++ c.args.toList.map (evO T) ++ b) T H) with
            | (A, T, H) => call g A H fun v H u => evOps call d ops r (putT (keepT T u) o.dst v) H k
          | _ => none
        | _ => opK cx.P d o T H fun T H => evOps call d ops r T H k
      | _ => opK cx.P d o T H fun T H => evOps call d ops r T H k
    match o.guard with
    | none => run T
    | some (j, want) => match (ops[j]?).bind (·.dst) with
      | some g => match T.getD g .undef with
        | .sc (.bool b) =>
          if b then (if want then run (T.set g (.sc (.bool true))) else evOps call d ops r (putT (T.set g (.sc (.bool true))) o.dst (.tup [])) H k)
          else (if want then evOps call d ops r (putT (T.set g (.sc (.bool false))) o.dst (.tup [])) H k else run (T.set g (.sc (.bool false))))
        | .tup [] => evOps call d ops r (putT T o.dst (.tup [])) H k
        | _ => none
      | none => none
def nmD : DV → List Nat
  | .ptr n _ _ => [n]
  | .rp n _ _ _ => [n]
  | .rw n => [n]
  | .sl n _ _ => [n]
  | .mh n => [n]
  | _ => []
def looksB (o : Oper) : Bool := match o.op with
  | .move _ | .assign _ | .extract _ _ | .nilCheck _ | .fieldAddr _ _ _ | .field _ _ _ | .binOp _ _ _ _ _ | .unOp _ _ _ | .pick _ _ _ | .makeFunc _ _ _ => false
  | _ => true
def readsD (T : List DV) (o : Oper) : List Nat := if looksB o = true then o.op.operands.toList.flatMap fun x => nmD (evO T x) else []
def hasBase (o : Oper) : Bool := match o.op with
  | .alloc _ | .box _ _ | .buildSlice _ _ _ | .makeSlice _ _ _ | .makeMap _ _ => true
  | _ => false
mutual
def DV.rows : DV → List Nat
  | .rp n _ _ _ => [n]
  | .rw n => [n]
  | .sl n _ _ => [n]
  | .fn _ a b => rowsL a ++ rowsL b
  | .agg cs => rowsL cs
  | .tup cs => rowsL cs
  | .tab _ vs => rowsL vs
  | _ => []
def rowsL : List DV → List Nat
  | [] => []
  | d :: r => d.rows ++ rowsL r
end
def rowsB : Option Blk → List Nat
  | some (.obj cs) => rowsL cs
  | some (.mp _ vs) => rowsL vs
  | _ => []
def disjB (u h : List Nat) : Bool := u.all fun n => !h.contains n
structure Act2 where
  u : List Nat
  W : List Nat
  B : Heap
def Act2.of : Actn → Act2
  | none => ⟨[], [], fun _ => none⟩
  | some (n, b) => ⟨[], [n], fun _ => some b⟩
def Heap.act2 (H : Heap) (a : Act2) : Heap := fun n => if a.W.contains n = true then a.B n else (Heap.drops a.u H) n
structure Did where
  o : Oper
  r : List Nat
  w : List Nat
  u : List Nat
  h : List Nat
  T : List DV
  H : Heap
def rowsD (ops : Array Oper) (T : List DV) (H : Heap) (o : Oper) (v : DV) (r : List Nat) (a : Act2) : List Nat := v.rows ++ ((o.looksAt ops).flatMap (fun t => (T.getD t .undef).rows) ++ (r.flatMap (fun n => rowsB (H n)) ++ a.W.flatMap (fun n => rowsB (a.B n))))
def didD (ops : Array Oper) (T : List DV) (H : Heap) (o : Oper) (v : DV) (r : List Nat) (a : Act2) : Did := ⟨o, r, a.W, a.u, rowsD ops T H o v r a, T, H⟩
def inBase (d : Nat) (o : Oper) (n : Nat) : Bool := hasBase o && decide (base d o.dst ≤ n) && decide (n < base d o.dst + 64)
def softB (ops : Array Oper) (x y : Did) : Bool := (x.u.isEmpty || (disjB x.u y.h && (!hasBase y.o && ((y.r.all fun n => disjB x.u (rowsB (x.H n))) && (y.o.looksAt ops).all fun t => disjB x.u (x.T.getD t .undef).rows)))) && (y.u.isEmpty || (disjB y.u x.h && !hasBase x.o))
def dynD (d : Nat) (ops : Array Oper) (x y : Did) : Bool :=
  (x.w.all fun n => !y.r.contains n && (!y.w.contains n && !inBase d y.o n)) &&
  ((y.w.all fun n => !x.r.contains n && !inBase d x.o n) && softB ops x y)
def apartD (d : Nat) (ops : Array Oper) (x y : Did) : Bool := dynD d ops x y && x.o.apart ops y.o
def noW (x : Did) : Bool := x.w.isEmpty && x.u.isEmpty
def hasA (anc : List Nat) (j i : Nat) : Bool := Nat.beq (anc.getD j 0 / 2 ^ i % 2) 1
def maskA (acc : List Nat) : List Edge → Nat → Nat
  | [], m => m
  | e :: r, m => maskA acc r (m ||| (2 ^ e.on ||| acc.getD e.on 0))
def ancs : Nat → List Oper → List Nat → Option (List Nat)
  | _, [], acc => some acc
  | i, o :: r, acc => if (o.after.toList.filter (Region.binds .any)).all (fun e => decide (e.on < i)) then ancs (i + 1) r (acc ++ [maskA acc (o.after.toList.filter (Region.binds .any)) 0]) else none
def statOk (ops : Array Oper) (anc : List Nat) : Bool := (List.range ops.size).all fun j => (List.range j).all fun i => hasA anc j i || match ops[i]?, ops[j]? with | some x, some y => x.apart ops y | _, _ => true
def tupD : List DV → DV
  | [v] => v
  | l => .tup l
def specV : List FS → List DV → (DV → Option α) → Option (Option α)
  | [], _, _ => none
  | S :: r, A, k => if S.pure then match S.tin.pr ⟨[], []⟩ A (fun _ => none) with
    | some (x, _) => some ((S.fn x).bind fun y => k (tupD (S.tout.T nam0 (S.out y))))
    | none => specV r A k else specV r A k
def isPtr : DV → Bool
  | .ptr _ _ _ => true
  | _ => false
def tabVal (g : FuncId) (A : List DV) : Option DV := if entersB cx.P g = true then match cx.tabs g with
  | some (n, ks, Fs) => if A.length = n then if A.all isPtr = true then some (.tab ks (Fs.map fun F => .fn (.func F) A [])) else none else none
  | none => none else none
def barOk (anc : List Nat) (n j : Nat) : Bool := ((List.range j).all fun i => hasA anc j i) && (List.range n).all fun i => decide (i ≤ j) || hasA anc i j
def nam1 (b : Nat) (m : Met) : Nam := ⟨fun i => match m.get i with | some n => n | none => b + 64 * (400000 + i), fun c => b + 64 * c⟩
def softK : List FS → List DV → Heap → Nat → (DV → Act2 → Option α) → Option (Option α)
  | [], _, _, _, _ => none
  | S :: r, A, H, b, k => match S.tin.pr ⟨[], []⟩ A H with
    | some (x, m) => some ((S.fn x).bind fun y =>
      if S.tout.free (nam1 b m) ((Heap.drops m.u H).away m) = true then k (tupD (S.tout.T (nam1 b m) (S.out y))) ⟨m.u, m.σ.map (·.2) ++ m.u ++ S.tout.names (nam1 b m), S.tout.H (nam1 b m) (S.out y) fun _ => none⟩ else none)
    | none => softK r A H b k
def softBase (d : Nat) (o : Oper) : Nat := 10000000000000000 + (d * 1000 + o.dst.getD 0) * 1000000000
def appendS (P : Program) (d : Nat) (o : Oper) (E : TypeId) (s : Sh) (x : DV) (ys : List s.T) (H : Heap) (k : DV → Act2 → Option α) : Option α := match x with
  | .sc (.slice none z c) => if decide (z = 0) && decide (c = 0) && decide (ys.length * bytesT P E ≤ 140737488355328) && decide (1 ≤ bytesT P E) then (match H (base d o.dst) with
    | none => k (.rw (base d o.dst)) ⟨[], [base d o.dst], fun _ => some (.row E s ys)⟩
    | some _ => none) else none
  | .rw n => match H n with
    | some (.row E' s' xs) => if E' = E then match s'.same s with
      | some ⟨h⟩ => if decide (((h ▸ xs : List s.T).length + ys.length) * bytesT P E ≤ 140737488355328) && decide (1 ≤ bytesT P E) then k (.rw n) ⟨[n], [n], fun _ => some (.row E s ((h ▸ xs : List s.T) ++ ys))⟩ else none
      | none => none else none
    | _ => none
  | .sl n z l => match H n with
    | some (.row E' s' xs) => if z = 0 then if E' = E then match s'.same s with
      | some ⟨h⟩ => if decide ((((h ▸ xs : List s.T).take l).length + ys.length) * bytesT P E ≤ 140737488355328) && decide (1 ≤ bytesT P E) then k (.rw n) ⟨[n], [n], fun _ => some (.row E s ((h ▸ xs : List s.T).take l ++ ys))⟩ else none
      | none => none else none else none
    | _ => none
  | _ => none
def softA (P : Program) (d : Nat) (o : Oper) (c : Call) (T : List DV) (H : Heap) (k : DV → Act2 → Option α) : Option α := match c.args.toList, c.argTypes.toList with
  | [x, y], [t, t'] => if t = t' then match P.underlying t with
    | some (.slice e) => match shapeOf P 8 e with
      | some s => if zeroOk P e s = true then match elemsD H s (evO T y) with
        | some ys => appendS P d o e s (evO T x) ys H k
        | none => none else none
      | none => none
    | _ => none else none
  | _, _ => none
def runD (call : CallK α) (d N : Nat) (anc : List Nat) (o : Oper) (j : Nat) (T : List DV) (H : Heap) (next : DV → Actn → Option α) (soft : List Nat → DV → Act2 → Option α) (on : K α) : Option α := match o.op with
  | .call c => match c.callee with
    | .value f => match evO T f with
      | .fn (.func g) a b => match tabVal cx g (a ++ c.args.toList.map (evO T) ++ b) with
        | some v => next v none
        | none => match (if entersB cx.P g = true then specV (cx.specs g) (a ++ c.args.toList.map (evO T) ++ b) (fun v => next v none) else none) with
          | some r => r
          | none => if barOk anc N j then match (if rawArgs g = true then (a ++ c.args.toList.map (evO T) ++ b, T, H) else solidA (a ++ c.args.toList.map (evO T) ++ b) T H) with
            | (A, T, H) => call g A H fun v H u => on (putT (keepT T u) o.dst v) H
            else match (if entersB cx.P g = true then softK (cx.specs g) (a ++ c.args.toList.map (evO T) ++ b) H (softBase d o) (fun v a => soft a.W v a) else none) with
              | some r => r
              | none => none
      | _ => none
    | .builtin .append => if barOk anc N j then opK cx.P d o T H on else softA cx.P d o c T H fun v a => soft (readsD T o ++ a.W) v a
    | _ => opE cx.P d o T H next
  | .store _ x _ => if (isRp (evO T x) && barOk anc N j) = true then opK cx.P d o T H on else opE cx.P d o T H next
  | _ => opE cx.P d o T H next
def okD (ops : Array Oper) (anc : List Nat) (d j : Nat) (q : Bool) (log : List (Nat × Did)) (x : Did) : Bool := (q && noW x) || log.all fun e => (noW e.2 && noW x) || (hasA anc j e.1 || dynD d ops e.2 x)
def evOpsD (call : CallK α) (d : Nat) (ops : Array Oper) (anc : List Nat) : List Oper → Nat → Bool → List (Nat × Did) → List DV → Heap → K α → Option α
  | [], _, _, _, T, H, k => k T H
  | o :: r, j, q, log, T, H, k =>
    let next (T : List DV) (v : DV) (a : Actn) : Option α :=
      if okD ops anc d j q log (didD ops T H o v (readsD T o) (Act2.of a)) = true then evOpsD call d ops anc r (j + 1) (q && a.isNone) ((j, didD ops T H o v (readsD T o) (Act2.of a)) :: log) (putT T o.dst v) (H.act a) k else none
    let soft (T : List DV) (rd : List Nat) (v : DV) (a : Act2) : Option α :=
      if okD ops anc d j q log (didD ops T H o v rd a) = true then evOpsD call d ops anc r (j + 1) false ((j, didD ops T H o v rd a) :: log) (putT (dropsL a.u T) o.dst v) (H.act2 a) k else none
    let run (T : List DV) : Option α := runD cx call d ops.size anc o j T H (next T) (soft T) (fun T H => evOpsD call d ops anc r (j + 1) true [] T H k)
    match o.guard with
    | none => run T
    | some (j, want) => match (ops[j]?).bind (·.dst) with
      | some g => match T.getD g .undef with
        | .sc (.bool b) =>
          if b then (if want then run (T.set g (.sc (.bool true))) else next (T.set g (.sc (.bool true))) (.tup []) none)
          else (if want then next (T.set g (.sc (.bool false))) (.tup []) none else run (T.set g (.sc (.bool false))))
        | .tup [] => next T (.tup []) none
        | _ => none
      | none => none
def unroll (body : List DV → Heap → (Ex → List DV → Heap → Option α) → Option α) : Nat → List DV → Heap → (Ex → List DV → Heap → Option α) → Option α
  | 0, _, _, _ => none
  | n + 1, T, H, k => body T H fun e T H => match e with
    | .norm => unroll body n T H k
    | e => k e T H
def loopK (L : Loop) (b : Nat) (T : List DV) (H : Heap) (k : Ex → List DV → Heap → Option α) : Option α := match L.tin.pr ⟨[], []⟩ T H with
  | some (x, m) => (L.fn (L.back x)).bind fun y => outK L.outs (L.out y) fun e t y =>
    let H' := Heap.drops m.u H
    let ρ := outNam H' b m
    if t.free ρ (H'.away m) = true then k e (t.T ρ y) (t.H ρ y (H'.away m)) else none
  | none => none
def jId (b : Code) : Nat := 1000000 + firstRegion b
def joinOf (f : FuncId) (b : Code) (T : List DV) (H : Heap) : Option Loop := match cx.loops f (jId b) with
  | some L => if (L.tin.pr ⟨[], []⟩ T H).isSome = true then some L else none
  | none => none
def seqK (b : List DV → Heap → (Ex → List DV → Heap → Option α) → Option α) (k : Ex → List DV → Heap → Option α) (e : Ex) (T : List DV) (H : Heap) : Option α := match e with
  | .norm => b T H k
  | e => k e T H
def fixT (c : Operand) (t : Bool) (T : List DV) : List DV := match c with | .tmp i => T.set i (.sc (.bool t)) | _ => T
def evCode (call : CallK α) (f d : Nat) : Code → List DV → Heap → (Ex → List DV → Heap → Option α) → Option α
  | .skip, T, H, k => k .norm T H
  | .label _, T, H, k => k .norm T H
  | .region _ ops draw, T, H, k => if draw then match ancs 0 ops.toList [] with
      | some anc => if (cx.P.follows .mixedOrders && statOk ops anc) = true then evOpsD cx call d ops anc ops.toList 0 true [] T H fun T H => k .norm T H else none
      | none => none
    else evOps cx call d ops ops.toList T H fun T H => k .norm T H
  | .seq a b, T, H, k => match joinOf cx f b T H with
    | some L => loopK L (2000000000 + (d * 1000 + 500 + firstRegion b) * 100000000) T H fun e T H => seqK (evCode call f d b) k e T H
    | none => evCode call f d a T H fun e T H => seqK (evCode call f d b) k e T H
  | .cond c a b, T, H, k => match evO T c with
    | .sc (.bool t) => if t then evCode call f d a (fixT c true T) H k else evCode call f d b (fixT c false T) H k
    | _ => none
  | .block id c, T, H, k => evCode call f d c T H fun e T H => match e with
    | .exit j => if j = id then k .norm T H else k (.exit j) T H
    | e => k e T H
  | .loop c, T, H, k => match cx.loops f (firstRegion c) with
    | some L => loopK L (2000000000 + (d * 1000 + firstRegion c) * 100000000) T H k
    | none => unroll (evCode call f d c) 64 T H k
  | .scope c, T, H, k => evCode call f d c T H fun e T H => match e with
    | .goto _ => none
    | e => k e T H
  | .exit id, T, H, k => k (.exit id) T H
  | .goto l, T, H, k => k (.goto l) T H
  | .ret, T, H, k => k .ret T H
  | .refuse _, _, _, _ => none
  | .rangeFunc _ _ _ _, _, _, _ => none
def resD (P : Program) (T : List DV) (H : Heap) : List ResultVar → Option (List DV)
  | [] => some []
  | .tmp t :: r => match resD P T H r with | some l => some (T.getD t .undef :: l) | none => none
  | .cell a t :: r => match loadD P t H (T.getD a .undef), resD P T H r with | some v, some l => some (v :: l) | _, _ => none
def specK : List FS → (T : List DV) → Heap → Nat → (DV → Heap → Option (List Nat) → Option α) → Option (Option α)
  | [], _, _, _, _ => none
  | S :: r, A, H, b, k => match S.tin.pr ⟨[], []⟩ A H with
    | some (x, m) => some ((S.fn x).bind fun y =>
      let H' := Heap.drops m.u H
      let ρ := outNam H' b m
      if S.tout.free ρ (H'.away m) = true then k (tupD (S.tout.T ρ (S.out y))) (S.tout.H ρ (S.out y) (H'.away m)) (some m.u) else none)
    | none => specK r A H b k
def bodyK (call : CallK α) (f d : Nat) (A : List DV) (H : Heap) (k : DV → Heap → Option α) : Option α := match cx.P.funcs[f]? with
  | some fn => match fn.body with
    | some c => evCode cx call f d c (A ++ List.replicate (fn.ntmps - A.length) .undef) H fun e T H => match e with
      | .norm => (match resD cx.P T H fn.results.toList with | some vs => k (tupD vs) H | none => none)
      | .ret => (match resD cx.P T H fn.results.toList with | some vs => k (tupD vs) H | none => none)
      | _ => none
    | none => none
  | none => none
def evCall : Nat → Nat → CallK α
  | 0, _, _, _, _, _ => none
  | n + 1, d, f, A, H, k => if entersB cx.P f = true then match tabVal cx f A with
    | some v => k v H (some [])
    | none => match specK (cx.specs f) A H (3000000000 + d * 100000000000) k with
      | some r => r
      | none => if ((cx.specs f).isEmpty || (cx.specs f).any fun S => !S.pure) = true then bodyK cx (evCall n (d + 1)) f d A H fun v H => k v H none else none
    else none
end
end Go.Proofs.Dk

/- What the reader's values stand for in a world. -/
namespace Go.Proofs.Dk
open Go Go.RowKit
set_option linter.unusedVariables false

def Sh.K (R : Nat → Prop) (w : World) : (s : Sh) → s.T → List Value → Prop
  | .int k, n, cs => cs = [.int k n]
  | .bool, b, cs => cs = [.bool b]
  | .str, s, cs => cs = [.string s]
  | .pair a b, x, cs => ∃ c1 c2, cs = c1 ++ c2 ∧ a.K R w x.1 c1 ∧ b.K R w x.2 c2
  | .sl e, xs, cs => ∃ A cap, cs = [.slice A xs.length cap] ∧ xs.length ≤ cap ∧ (xs ≠ [] → ∃ a, A = some a ∧ a.spot = none ∧ R a.block ∧ ∀ i x, xs[i]? = some x → ∃ c, c.length = e.sz ∧ e.K R w x c ∧ ∀ j u, c[j]? = some u → w.cell? (a.add (i * e.sz + j)) = some u)
  | .arr n e, xs, cs => xs.length = n ∧ cs.length = n * e.sz ∧ ∀ i x, xs[i]? = some x → e.K R w x ((cs.drop (i * e.sz)).take e.sz)
theorem Sh.K_len {R : Nat → Prop} {w : World} : ∀ {s : Sh} {x : s.T} {cs : List Value}, s.K R w x cs → cs.length = s.sz
  | .int _, _, _, h => by cases h; rfl
  | .bool, _, _, h => by cases h; rfl
  | .str, _, _, h => by cases h; rfl
  | .pair a b, x, _, ⟨c1, c2, e, h1, h2⟩ => by rw [e, List.length_append, K_len h1, K_len h2]; rfl
  | .sl _, _, _, ⟨A, cap, e, _⟩ => by rw [e]; rfl
  | .arr n e, _, _, ⟨_, h, _⟩ => h
structure Keeps (R R' : Nat → Prop) (w w' : World) : Prop where
  sub : ∀ b, R b → R' b
  same : ∀ b, R b → w'.heap[b]? = w.heap[b]?
theorem Keeps.refl (R : Nat → Prop) (w : World) : Keeps R R w w := ⟨fun _ h => h, fun _ _ => rfl⟩
theorem Keeps.trans {R R1 R2 : Nat → Prop} {w w1 w2 : World} (h : Keeps R R1 w w1) (k : Keeps R1 R2 w1 w2) : Keeps R R2 w w2 := ⟨fun b hb => k.sub b (h.sub b hb), fun b hb => (k.same b (h.sub b hb)).trans (h.same b hb)⟩
theorem cell_same {w w' : World} {a : Addr} (h : w'.heap[a.block]? = w.heap[a.block]?) : w'.cell? a = w.cell? a := World.cell?_of_block h
theorem add_block (a : Addr) (n : Nat) : (a.add n).block = a.block := by unfold Addr.add; split <;> rfl
theorem Sh.K_keep {R R' : Nat → Prop} {w w' : World} (hk : Keeps R R' w w') : ∀ {s : Sh} {x : s.T} {cs : List Value}, s.K R w x cs → s.K R' w' x cs
  | .int _, _, _, h => h
  | .bool, _, _, h => h
  | .str, _, _, h => h
  | .pair a b, x, _, ⟨c1, c2, e, h1, h2⟩ => ⟨c1, c2, e, K_keep hk h1, K_keep hk h2⟩
  | .sl e, xs, _, ⟨A, cap, h1, h2, h3⟩ => ⟨A, cap, h1, h2, fun hn => by
      obtain ⟨a, e1, e2, e3, e4⟩ := h3 hn
      refine ⟨a, e1, e2, hk.sub _ e3, fun i x hx => ?_⟩
      obtain ⟨c, g1, g2, g3⟩ := e4 i x hx
      exact ⟨c, g1, K_keep hk g2, fun j u hu => (cell_same (by rw [add_block]; exact hk.same _ e3)).trans (g3 j u hu)⟩⟩
  | .arr n e, xs, _, ⟨h1, h2, h3⟩ => ⟨h1, h2, fun i x hx => K_keep hk (h3 i x hx)⟩
inductive Ent where
  | obj (b : Nat)
  | row (sz : Nat) (v : Value)
def Ent.blk : Ent → Option Nat
  | .obj b => some b
  | .row _ v => v.ownBlock
structure In where
  ι : Nat → Option Ent
  R : Nat → Prop
def pOff : List Ix → Nat
  | [] => 0
  | .ix i _ sz :: p => i * sz + pOff p
  | .off k :: p => k + pOff p
def pOk : List Ix → Prop
  | [] => True
  | .ix i m _ :: p => i < m ∧ pOk p
  | .off _ :: p => pOk p
def _root_.Go.Proofs.Dk.DV.imm : DV → Bool
  | .sc _ | .vs _ _ | .arr _ _ _ => true
  | _ => false
structure TabE (ks : List (List Int)) (vs : List DV) (val : Int → Value) (es : List MapEntry) : Prop where
  keys : ∀ e ∈ es, ∃ n, e.key = .int .i64 n
  here : ∀ e ∈ es, ∀ n, e.key = .int .i64 n → val n = e.val ∧ (pickD ks vs n).isSome = true
  all : ∀ n, (pickD ks vs n).isSome = true → ∃ e ∈ es, e.key = .int .i64 n
theorem TabE.map {ks : List (List Int)} {vs vs' : List DV} {val : Int → Value} {es : List MapEntry} {f : DV → DV} (h : TabE ks vs val es) (hv : ∀ n, pickD ks vs' n = (pickD ks vs n).map f) : TabE ks vs' val es :=
  ⟨h.keys, fun e he n hn => ⟨(h.here e he n hn).1, by rw [hv, Option.isSome_map]; exact (h.here e he n hn).2⟩, fun n hn => h.all n (by rw [hv, Option.isSome_map] at hn; exact hn)⟩
mutual
inductive VR (I : In) (w : World) : DV → Value → Prop where
  | undef (v : Value) : VR I w .undef v
  | sc (v : Value) (h : v.oneCell' = true) : VR I w (.sc v) v
  | ptr (n o : Nat) (p : List Ix) (b : Nat) (h : I.ι n = some (.obj b)) (hp : pOk p) : VR I w (.ptr n o p) (.pointer (some ⟨b, o + pOff p, none⟩))
  | rp (n sz i : Nat) (p : List Ix) (b len cap : Nat) (h : I.ι n = some (.row sz (.slice (some ⟨b, 0, none⟩) len cap))) (hi : i < len) (hp : pOk p) : VR I w (.rp n sz i p) (.pointer (some ⟨b, i * sz + pOff p, none⟩))
  | pi (its : List DV) (a : Addr) (cs : List Value) (hs : a.spot = none) (hR : I.R a.block) (him : ∀ d ∈ its, d.imm = true) (h : CR I w its cs) (hc : ∀ j u, cs[j]? = some u → w.cell? (a.add j) = some u) : VR I w (.pi its) (.pointer (some a))
  | rw (n sz : Nat) (v : Value) (h : I.ι n = some (.row sz v)) (hs : ∃ A l c, v = .slice A l c) : VR I w (.rw n) v
  | sl (n o l sz : Nat) (A A' : Option Addr) (len cap cap' : Nat) (h : I.ι n = some (.row sz (.slice A len cap))) (hl : o + l ≤ len) (h0 : o = 0 → A' = A ∧ cap' = cap) (h1 : 0 < l → ∃ b, A = some ⟨b, 0, none⟩ ∧ A' = some ⟨b, o * sz, none⟩) (hc : l ≤ cap') : VR I w (.sl n o l) (.slice A' l cap')
  | vs (s : Sh) (xs : List s.T) (v : Value) (h : (Sh.sl s).K I.R w xs [v]) : VR I w (.vs s xs) v
  | fn (F : Fn) (a b : List DV) (a' b' : Array Value) (h1 : LR I w a a'.toList) (h2 : LR I w b b'.toList) : VR I w (.fn F a b) (.func F a' b')
  | agg (ds : List DV) (cs : Array Value) (h : CR I w ds cs.toList) : VR I w (.agg ds) (.agg cs)
  | tup (ds : List DV) (vs : Array Value) (h : LR I w ds vs.toList) : VR I w (.tup ds) (.tuple vs)
  | tab (ks : List (List Int)) (vs : List DV) (val : Int → Value) (b : Nat) (es : Array MapEntry) (clock : Nat) (hR : I.R b) (hb : w.heap[b]? = some (.map es clock)) (hE : TabE ks vs val es.toList) (h : ∀ n d, pickD ks vs n = some d → VR I w d (val n)) : VR I w (.tab ks vs) (.map (some b))
  | mh (n b : Nat) (h : I.ι n = some (.obj b)) : VR I w (.mh n) (.map (some b))
inductive CR (I : In) (w : World) : List DV → List Value → Prop where
  | nil : CR I w [] []
  | one (d : DV) (r : List DV) (u : Value) (cs : List Value) (h : VR I w d u) (hu : u.oneCell' = true) (hr : CR I w r cs) : CR I w (d :: r) (u :: cs)
  | arr (s : Sh) (n : Nat) (xs : List s.T) (r : List DV) (c cs : List Value) (h : (Sh.arr n s).K I.R w xs c) (h1 : ∀ u ∈ c, u.oneCell' = true) (hr : CR I w r cs) : CR I w (.arr s n xs :: r) (c ++ cs)
inductive LR (I : In) (w : World) : List DV → List Value → Prop where
  | nil : LR I w [] []
  | cons (d : DV) (r : List DV) (u : Value) (vs : List Value) (h : VR I w d u) (hr : LR I w r vs) : LR I w (d :: r) (u :: vs)
end
theorem Sh.K_one {R : Nat → Prop} {w : World} : ∀ {s : Sh} {x : s.T} {cs : List Value}, s.K R w x cs → ∀ u ∈ cs, u.oneCell' = true
  | .int _, _, _, h, u, hu => by cases h; simp at hu; subst hu; rfl
  | .bool, _, _, h, u, hu => by cases h; simp at hu; subst hu; rfl
  | .str, _, _, h, u, hu => by cases h; simp at hu; subst hu; rfl
  | .pair a b, x, _, ⟨c1, c2, e, h1, h2⟩, u, hu => by
    rw [e, List.mem_append] at hu
    rcases hu with hu | hu
    · exact K_one h1 u hu
    · exact K_one h2 u hu
  | .sl _, _, _, ⟨A, cap, e, _⟩, u, hu => by rw [e] at hu; simp at hu; subst hu; rfl
  | .arr n e, xs, cs, ⟨h1, h2, h3⟩, u, hu => by
    obtain ⟨j, hj, rfl⟩ := List.getElem_of_mem hu
    have hz : 0 < e.sz := by
      rcases Nat.eq_zero_or_pos e.sz with h | h
      · rw [h2, h] at hj; omega
      · exact h
    have hi : j / e.sz < n := by rw [Nat.div_lt_iff_lt_mul hz]; omega
    have hx : xs[j / e.sz]? = some (xs[j / e.sz]'(by omega)) := List.getElem?_eq_getElem _
    refine K_one (h3 _ _ hx) _ ?_
    have hm : j % e.sz < e.sz := Nat.mod_lt _ hz
    have hj2 : j / e.sz * e.sz + j % e.sz = j := by rw [Nat.mul_comm]; exact Nat.div_add_mod j e.sz
    have hg : ((cs.drop (j / e.sz * e.sz)).take e.sz)[j % e.sz]? = some cs[j] := by
      rw [List.getElem?_take, if_pos hm, List.getElem?_drop, hj2, List.getElem?_eq_getElem hj]
    exact List.mem_of_getElem? hg
theorem CR.append {I : In} {w : World} : ∀ {a b : List DV} {c d : List Value}, CR I w a c → CR I w b d → CR I w (a ++ b) (c ++ d)
  | _, _, _, _, .nil, h => h
  | _, _, _, _, .one d r u cs h hu hr, k => .one d _ u _ h hu (CR.append hr k)
  | _, _, _, _, .arr s n xs r c cs h h1 hr, k => by
    rw [List.append_assoc]
    exact .arr s n xs _ c _ h h1 (CR.append hr k)
theorem Sh.enc_ok {I : In} {w : World} : ∀ {s : Sh} {x : s.T} {cs : List Value}, s.K I.R w x cs → CR I w (s.enc x) cs
  | .int k, n, _, h => by cases h; exact .one _ _ _ _ (.sc _ rfl) rfl .nil
  | .bool, b, _, h => by cases h; exact .one _ _ _ _ (.sc _ rfl) rfl .nil
  | .str, s, _, h => by cases h; exact .one _ _ _ _ (.sc _ rfl) rfl .nil
  | .pair a b, x, _, ⟨c1, c2, e, h1, h2⟩ => by rw [e]; exact CR.append (enc_ok h1) (enc_ok h2)
  | .sl e, xs, cs, h => by
    obtain ⟨A, cap, rfl, h2⟩ := id h
    exact .one _ _ _ _ (.vs e xs _ h) rfl .nil
  | .arr n e, xs, cs, h => by
    have := CR.arr (I := I) (w := w) e n xs [] cs [] h (K_one h) .nil
    simpa [Sh.enc] using this
theorem Sh.enc_imm : ∀ (s : Sh) (x : s.T), ∀ d ∈ s.enc x, d.imm = true
  | .int _, _, d, h => by simp only [Sh.enc, List.mem_singleton] at h; subst h; rfl
  | .bool, _, d, h => by simp only [Sh.enc, List.mem_singleton] at h; subst h; rfl
  | .str, _, d, h => by simp only [Sh.enc, List.mem_singleton] at h; subst h; rfl
  | .pair a b, x, d, h => by
    simp only [Sh.enc, List.mem_append] at h
    rcases h with h | h
    · exact enc_imm a _ d h
    · exact enc_imm b _ d h
  | .sl _, _, d, h => by simp only [Sh.enc, List.mem_singleton] at h; subst h; rfl
  | .arr _ _, _, d, h => by simp only [Sh.enc, List.mem_singleton] at h; subst h; rfl
theorem decN_ok {I : In} {w : World} {e : Sh} (f : List DV → Option (e.T × List DV))
    (hf : ∀ {its r : List DV} {x : e.T} {cs : List Value}, f its = some (x, r) → CR I w its cs → ∃ c1 c2, cs = c1 ++ c2 ∧ e.K I.R w x c1 ∧ CR I w r c2) :
    ∀ (n : Nat) {its r : List DV} {xs : List e.T} {cs : List Value}, decN f n its = some (xs, r) → CR I w its cs → ∃ c1 c2, cs = c1 ++ c2 ∧ (Sh.arr n e).K I.R w xs c1 ∧ CR I w r c2
  | 0, its, r, xs, cs, h, hc => by
    simp only [decN, Option.some.injEq, Prod.mk.injEq] at h
    obtain ⟨rfl, rfl⟩ := h
    exact ⟨[], cs, rfl, ⟨rfl, by simp, fun i x hx => by simp at hx⟩, hc⟩
  | n + 1, its, r, xs, cs, h, hc => by
    simp only [decN] at h
    split at h
    · rename_i x r1 h1
      split at h
      · rename_i ys r2 h2
        simp only [Option.some.injEq, Prod.mk.injEq] at h
        obtain ⟨rfl, rfl⟩ := h
        obtain ⟨c1, c2, rfl, k1, k2⟩ := hf h1 hc
        obtain ⟨d1, d2, rfl, ⟨m1, m2, m3⟩, m4⟩ := decN_ok f hf n h2 k2
        have hl := Sh.K_len k1
        refine ⟨c1 ++ d1, d2, by simp, ⟨by simp [m1], by simp [m2, hl, Nat.add_mul, Nat.add_comm], fun i y hy => ?_⟩, m4⟩
        cases i with
        | zero =>
          simp only [List.getElem?_cons_zero, Option.some.injEq] at hy
          subst hy
          simpa [List.take_append_of_le_length (Nat.le_of_eq hl.symm), List.take_of_length_le (Nat.le_of_eq hl)] using k1
        | succ i =>
          simp only [List.getElem?_cons_succ] at hy
          have := m3 i y hy
          rw [Nat.succ_mul, Nat.add_comm, ← List.drop_drop, List.drop_append_of_le_length (Nat.le_of_eq hl.symm), List.drop_of_length_le (Nat.le_of_eq hl), List.nil_append]
          exact this
      · cases h
    · cases h
theorem Sh.dec_ok {I : In} {w : World} : ∀ {s : Sh} {its r : List DV} {x : s.T} {cs : List Value}, s.dec its = some (x, r) → CR I w its cs → ∃ c1 c2, cs = c1 ++ c2 ∧ s.K I.R w x c1 ∧ CR I w r c2
  | .int k, its, r, x, cs, h, hc => by
    simp only [Sh.dec] at h
    split at h
    · split at h
      · rename_i k' n r' hk
        simp only [Option.some.injEq, Prod.mk.injEq] at h
        obtain ⟨rfl, rfl⟩ := h
        subst hk
        cases hc with
        | one _ _ u c2 hv hu hr => cases hv; exact ⟨[_], c2, rfl, rfl, hr⟩
      · cases h
    · cases h
  | .bool, its, r, x, cs, h, hc => by
    simp only [Sh.dec] at h
    split at h
    · simp only [Option.some.injEq, Prod.mk.injEq] at h
      obtain ⟨rfl, rfl⟩ := h
      cases hc with
      | one _ _ u c2 hv hu hr => cases hv; exact ⟨[_], c2, rfl, rfl, hr⟩
    · cases h
  | .str, its, r, x, cs, h, hc => by
    simp only [Sh.dec] at h
    split at h
    · simp only [Option.some.injEq, Prod.mk.injEq] at h
      obtain ⟨rfl, rfl⟩ := h
      cases hc with
      | one _ _ u c2 hv hu hr => cases hv; exact ⟨[_], c2, rfl, rfl, hr⟩
    · cases h
  | .pair a b, its, r, x, cs, h, hc => by
    simp only [Sh.dec] at h
    split at h
    · rename_i x1 r1 h1
      split at h
      · rename_i y r2 h2
        simp only [Option.some.injEq, Prod.mk.injEq] at h
        obtain ⟨rfl, rfl⟩ := h
        obtain ⟨c1, c2, rfl, k1, k2⟩ := dec_ok h1 hc
        obtain ⟨d1, d2, rfl, m1, m2⟩ := dec_ok h2 k2
        exact ⟨c1 ++ d1, d2, by simp, ⟨c1, d1, rfl, k1, m1⟩, m2⟩
      · cases h
    · cases h
  | .sl e, its, r, x, cs, h, hc => by
    simp only [Sh.dec] at h
    split at h
    · rename_i e' xs r'
      split at h
      · rename_i hs hq
        cases hs
        simp only [Option.some.injEq, Prod.mk.injEq] at h
        obtain ⟨rfl, rfl⟩ := h
        cases hc with
        | one _ _ u c2 hv hu hr => cases hv with | vs _ _ _ hk => exact ⟨[u], c2, rfl, hk, hr⟩
      · cases h
    · rename_i n cap r'
      split at h
      · rename_i hn
        subst hn
        simp only [Option.some.injEq, Prod.mk.injEq] at h
        obtain ⟨rfl, rfl⟩ := h
        cases hc with
        | one _ _ u c2 hv hu hr => cases hv; exact ⟨[_], c2, rfl, ⟨none, cap, rfl, Nat.zero_le _, fun h => absurd rfl h⟩, hr⟩
      · cases h
    · cases h
  | .arr n e, its, r, x, cs, h, hc => by
    simp only [Sh.dec] at h
    split at h
    · rename_i e' n' xs r'
      split at h
      · rename_i hn
        subst hn
        split at h
        · rename_i hs hq
          cases hs
          simp only [Option.some.injEq, Prod.mk.injEq] at h
          obtain ⟨rfl, rfl⟩ := h
          cases hc with
          | one _ _ u c2 hv hu hr => cases hv
          | arr _ _ _ _ c c2 hk h1 hr => exact ⟨c, c2, rfl, hk, hr⟩
        · cases h
      · cases h
    · exact decN_ok _ (fun h1 h2 => dec_ok h1 h2) n h hc
end Go.Proofs.Dk

/- Items and cells: what is cut out, what is laid in. -/
namespace Go.Proofs.Dk
open Go Go.RowKit
set_option linter.unusedVariables false
variable {I : In} {w : World}

theorem CR.len : ∀ {its : List DV} {cs : List Value}, CR I w its cs → cs.length = widthL its
  | _, _, .nil => rfl
  | _, _, .one d r u cs h hu hr => by
    have := CR.len hr
    cases h <;> simp [widthL, DV.wd, this, Nat.add_comm]
  | _, _, .arr s n xs r c cs h h1 hr => by
    have := CR.len hr
    have h2 : c.length = n * s.sz := Sh.K_len h
    simp [widthL, DV.wd, this, h2]
theorem CR.ones : ∀ {its : List DV} {cs : List Value}, CR I w its cs → ∀ u ∈ cs, u.oneCell' = true
  | _, _, .nil, u, hu => by cases hu
  | _, _, .one d r v cs h hv hr, u, hu => by
    rcases List.mem_cons.1 hu with rfl | hu
    · exact hv
    · exact CR.ones hr u hu
  | _, _, .arr s n xs r c cs h h1 hr, u, hu => by
    rcases List.mem_append.1 hu with hu | hu
    · exact h1 u hu
    · exact CR.ones hr u hu
theorem CR.head {d : DV} {r : List DV} {cs : List Value} (h : CR I w (d :: r) cs) : ∃ c1 c2, cs = c1 ++ c2 ∧ c1.length = d.wd ∧ CR I w [d] c1 ∧ CR I w r c2 := by
  cases h with
  | one _ _ u c hv hu hr =>
    refine ⟨[u], c, rfl, ?_, .one _ _ _ _ hv hu .nil, hr⟩
    cases hv <;> rfl
  | arr s n xs _ c c2 hk h1 hr =>
    refine ⟨c, c2, rfl, Sh.K_len hk, ?_, hr⟩
    have := CR.arr (I := I) (w := w) s n xs [] c [] hk h1 .nil
    simpa using this
theorem CR.cons {d : DV} {r : List DV} {c1 c2 : List Value} (h : CR I w [d] c1) (hr : CR I w r c2) : CR I w (d :: r) (c1 ++ c2) := by
  have := CR.append h hr
  simpa using this
theorem dropD_ok : ∀ {its : List DV} {o : Nat} {r : List DV} {cs : List Value}, dropD o its = some r → CR I w its cs → ∃ c1 c2, cs = c1 ++ c2 ∧ c1.length = o ∧ CR I w (preD o its) c1 ∧ CR I w r c2
  | [], o, r, cs, h, hc => by
    simp only [dropD] at h
    split at h
    · rename_i ho
      simp only [Option.some.injEq] at h
      subst h ho
      exact ⟨[], cs, rfl, rfl, .nil, hc⟩
    · cases h
  | d :: l, o, r, cs, h, hc => by
    simp only [dropD] at h
    split at h
    · rename_i ho
      simp only [Option.some.injEq] at h
      subst h ho
      exact ⟨[], cs, rfl, rfl, .nil, hc⟩
    · rename_i ho
      split at h
      · rename_i hw
        obtain ⟨c1, c2, rfl, hl, h1, h2⟩ := hc.head
        obtain ⟨d1, d2, rfl, hm, k1, k2⟩ := dropD_ok h h2
        refine ⟨c1 ++ d1, d2, by simp, by simp [hl, hm]; omega, ?_, k2⟩
        simp only [preD, ho, if_false]
        exact h1.cons k1
      · cases h
theorem takeD_ok : ∀ {its : List DV} {n : Nat} {l : List DV} {cs : List Value}, takeD n its = some l → CR I w its cs → ∃ c1 c2, cs = c1 ++ c2 ∧ c1.length = n ∧ CR I w l c1
  | [], n, l, cs, h, hc => by
    simp only [takeD] at h
    split at h
    · rename_i ho
      simp only [Option.some.injEq] at h
      subst h ho
      exact ⟨[], cs, rfl, rfl, .nil⟩
    · cases h
  | d :: r, n, l, cs, h, hc => by
    simp only [takeD] at h
    split at h
    · rename_i ho
      simp only [Option.some.injEq] at h
      subst h ho
      exact ⟨[], cs, rfl, rfl, .nil⟩
    · rename_i ho
      split at h
      · rename_i hw
        split at h
        · rename_i l' hl'
          simp only [Option.some.injEq] at h
          subst h
          obtain ⟨c1, c2, rfl, hl, h1, h2⟩ := hc.head
          obtain ⟨d1, d2, rfl, hm, k1⟩ := takeD_ok hl' h2
          exact ⟨c1 ++ d1, d2, by simp, by simp [hl, hm]; omega, h1.cons k1⟩
        · cases h
      · cases h
def splice (cs : List Value) (o : Nat) (d : List Value) : List Value := cs.take o ++ d ++ cs.drop (o + d.length)
theorem splice_len {cs d : List Value} {o : Nat} (h : o + d.length ≤ cs.length) : (splice cs o d).length = cs.length := by
  simp [splice]; omega
theorem splice_left {c1 c2 d : List Value} {o : Nat} : splice (c1 ++ c2) (c1.length + o) d = c1 ++ splice c2 o d := by
  simp only [splice]
  rw [Nat.add_assoc, List.take_length_add_append, List.drop_length_add_append]
  simp
theorem splice_right {c1 c2 d : List Value} {o : Nat} (h : o + d.length ≤ c1.length) : splice (c1 ++ c2) o d = splice c1 o d ++ c2 := by
  simp only [splice]
  rw [List.take_append_of_le_length (by omega), List.drop_append_of_le_length (by omega)]
  simp
theorem splice_mid {c d : List Value} {i sz o : Nat} (h : o + d.length ≤ sz) (hle : i + sz ≤ c.length) : splice c i (splice ((c.drop i).take sz) o d) = splice c (i + o) d := by
  obtain ⟨a, m, z, rfl, ha, hm⟩ : ∃ a m z, c = a ++ (m ++ z) ∧ a.length = i ∧ m.length = sz :=
    ⟨c.take i, (c.drop i).take sz, (c.drop i).drop sz, by rw [List.take_append_drop, List.take_append_drop], by simp; omega, by simp; omega⟩
  subst ha hm
  have e1 : ((a ++ (m ++ z)).drop a.length).take m.length = m := by simp
  rw [e1, splice_left, splice_right h]
  have := splice_len h
  simp only [splice] at this ⊢
  have e2 : (a ++ (m ++ z)).drop (a.length + (List.take o m ++ d ++ List.drop (o + d.length) m).length) = z := by
    rw [List.drop_length_add_append, this]
    simp
  rw [e2]
  simp
theorem putD_ok : ∀ {old new l : List DV} {c d : List Value}, putD old new = some l → CR I w old c → CR I w new d → d.length ≤ c.length ∧ CR I w l (d ++ c.drop d.length)
  | old, [], l, c, d, h, hc, hd => by
    cases hd
    cases old <;> (simp only [putD, Option.some.injEq] at h; subst h; exact ⟨Nat.zero_le _, by simpa using hc⟩)
  | [], x :: new, l, c, d, h, hc, hd => by simp [putD] at h
  | o :: r, x :: new, l, c, d, h, hc, hd => by
    obtain ⟨c1, c2, rfl, hl, h1, h2⟩ := hc.head
    by_cases ho : ∃ s n xs, o = .arr s n xs
    · obtain ⟨s, n, xs, rfl⟩ := ho
      simp only [putD] at h
      split at h
      · rename_i ys new' hy
        split at h
        · rename_i l' hl'
          simp only [Option.some.injEq] at h
          subst h
          obtain ⟨d1, d2, rfl, k1, k2⟩ := Sh.dec_ok hy hd
          obtain ⟨m1, m2⟩ := putD_ok hl' h2 k2
          have e1 : d1.length = n * s.sz := Sh.K_len k1
          have e2 : c1.length = n * s.sz := hl
          refine ⟨by simp; omega, ?_⟩
          have := CR.arr (I := I) (w := w) s n ys _ d1 _ k1 (Sh.K_one k1) m2
          have e3 : (d1 ++ d2) ++ (c1 ++ c2).drop (d1 ++ d2).length = d1 ++ (d2 ++ c2.drop d2.length) := by
            rw [List.length_append, List.append_assoc, show d1.length + d2.length = c1.length + d2.length by omega, ← List.drop_drop]
            simp
          rw [e3]
          exact this
        · cases h
      · cases h
    · have hnx : ∀ s n xs, x ≠ .arr s n xs := by
        rintro s n xs rfl
        cases o <;> first | exact absurd ⟨_, _, _, rfl⟩ ho | (simp [putD] at h)
      have hp : ∃ l', putD r new = some l' ∧ l = x :: l' := by
        cases o <;> first
          | exact absurd ⟨_, _, _, rfl⟩ ho
          | (cases x <;> first
              | exact absurd rfl (hnx _ _ _)
              | (simp only [putD] at h
                 split at h
                 · rename_i l' hl'
                   simp only [Option.some.injEq] at h
                   exact ⟨l', hl', h.symm⟩
                 · cases h))
      obtain ⟨l', hl', rfl⟩ := hp
      cases hd with
      | arr s n xs _ _ _ _ _ _ => exact absurd rfl (hnx s n xs)
      | one _ _ u d2 hv hu hr =>
        obtain ⟨m1, m2⟩ := putD_ok hl' h2 hr
        have hc1 : c1.length = 1 := by
          rw [hl]
          cases o <;> first | rfl | exact absurd ⟨_, _, _, rfl⟩ ho
        obtain ⟨u0, rfl⟩ : ∃ u0, c1 = [u0] := by
          match c1, hc1 with
          | [u0], _ => exact ⟨u0, rfl⟩
        exact ⟨by simpa using m1, by simpa using .one _ _ _ _ hv hu m2⟩
theorem getD_some {α : Type} (xs : List α) (i : Nat) (d : α) (h : i < xs.length) : xs[i]? = some (xs.getD i d) := by
  rw [List.getElem?_eq_getElem h, List.getD_eq_getElem?_getD, List.getElem?_eq_getElem h]
  rfl
theorem atD_ok : ∀ {p : List Ix} {its its' : List DV} {cs : List Value}, atD its p = some its' → pOk p → CR I w its cs → ∃ cs', CR I w its' cs' ∧ ∀ (j : Nat) (u : Value), cs'[j]? = some u → cs[pOff p + j]? = some u
  | [], its, its', cs, h, _, hc => by
    simp only [atD, Option.some.injEq] at h
    subst h
    exact ⟨cs, hc, fun j u hu => by simpa [pOff] using hu⟩
  | .off k :: p, its, its', cs, h, hp, hc => by
    simp only [atD] at h
    split at h
    · rename_i r hr
      obtain ⟨c1, c2, rfl, hl, _, h2⟩ := dropD_ok hr hc
      obtain ⟨cs', k1, k2⟩ := atD_ok h hp h2
      refine ⟨cs', k1, fun j u hu => ?_⟩
      have := k2 j u hu
      simp only [pOff]
      rw [List.getElem?_append_right (by omega), ← this]
      congr 1
      omega
    · cases h
  | .ix i m sz :: p, its, its', cs, h, hp, hc => by
    simp only [atD] at h
    split at h
    · rename_i s m' ys r
      split at h
      · rename_i hm
        subst hm
        split at h
        · rename_i hz
          subst hz
          cases hc with
          | one _ _ u c2 hv hu hr => cases hv
          | arr _ _ _ _ c c2 hk h1 hr =>
            obtain ⟨k1, k2, k3⟩ := hk
            have hi : i < ys.length := by rw [k1]; exact hp.1
            have hx := k3 i _ (getD_some ys i s.dflt hi)
            obtain ⟨cs', g1, g2⟩ := atD_ok h hp.2 (Sh.enc_ok hx)
            refine ⟨cs', g1, fun j u hu => ?_⟩
            have h3 := g2 j u hu
            rw [List.getElem?_take] at h3
            split at h3
            · rename_i hlt
              rw [List.getElem?_drop] at h3
              simp only [pOff]
              rw [List.getElem?_append_left (by
                have := (List.getElem?_eq_some_iff.1 h3).1
                omega), ← h3]
              congr 1
              omega
            · cases h3
        · cases h
      · cases h
    · cases h
theorem K_set {R : Nat → Prop} {s : Sh} {n : Nat} {xs : List s.T} {c d : List Value} {i : Nat} {y : s.T} (h : (Sh.arr n s).K R w xs c) (hi : i < n) (hd : s.K R w y d) : (Sh.arr n s).K R w (xs.set i y) (splice c (i * s.sz) d) ∧ i * s.sz + d.length ≤ c.length := by
  obtain ⟨h1, h2, h3⟩ := h
  have hl := Sh.K_len hd
  have hle : i * s.sz + s.sz ≤ n * s.sz := by
    rw [← Nat.succ_mul]
    exact Nat.mul_le_mul_right _ hi
  refine ⟨⟨by simp [h1], by rw [splice_len (by omega)]; exact h2, fun j x hx => ?_⟩, by omega⟩
  have hlen : (c.take (i * s.sz)).length = i * s.sz := by simp; omega
  by_cases e : j = i
  · subst e
    have hx2 : x = y := by
      have hj : j < xs.length := by omega
      simpa [List.getElem?_set, hj] using hx.symm
    subst hx2
    have e1 : ((splice c (j * s.sz) d).drop (j * s.sz)).take s.sz = d := by
      simp only [splice]
      rw [List.append_assoc, List.drop_append_of_le_length (by omega), List.drop_of_length_le (by omega), List.nil_append, List.take_append_of_le_length (by omega), List.take_of_length_le (by omega)]
    rw [e1]
    exact hd
  · rw [List.getElem?_set, if_neg (Ne.symm e)] at hx
    have h4 := h3 j x hx
    have e1 : ((splice c (i * s.sz) d).drop (j * s.sz)).take s.sz = (c.drop (j * s.sz)).take s.sz := by
      apply List.ext_getElem?
      intro q
      simp only [List.getElem?_take, List.getElem?_drop]
      split
      · rename_i hq
        have hj : j < n := by
          have := (List.getElem?_eq_some_iff.1 hx).1
          omega
        simp only [splice]
        rcases Nat.lt_or_gt_of_ne e with hlt | hgt
        · have : j * s.sz + s.sz ≤ i * s.sz := by rw [← Nat.succ_mul]; exact Nat.mul_le_mul_right _ hlt
          rw [List.append_assoc, List.getElem?_append_left (by omega), List.getElem?_take, if_pos (by omega)]
        · have : i * s.sz + s.sz ≤ j * s.sz := by rw [← Nat.succ_mul]; exact Nat.mul_le_mul_right _ hgt
          rw [List.getElem?_append_right (by simp; omega), List.getElem?_drop]
          congr 1
          simp
          omega
      · rfl
    rw [e1]
    exact h4
theorem setD_ok : ∀ {p : List Ix} {its its' new : List DV} {cs d : List Value}, setD new p its = some its' → pOk p → CR I w its cs → CR I w new d → pOff p + d.length ≤ cs.length ∧ CR I w its' (splice cs (pOff p) d)
  | [], its, its', new, cs, d, h, _, hc, hd => by
    simp only [setD] at h
    obtain ⟨h1, h2⟩ := putD_ok h hc hd
    exact ⟨by simpa [pOff] using h1, by simpa [pOff, splice] using h2⟩
  | .off k :: p, its, its', new, cs, d, h, hp, hc, hd => by
    simp only [setD] at h
    split at h
    · rename_i r hr
      split at h
      · rename_i l hl
        simp only [Option.some.injEq] at h
        subst h
        obtain ⟨c1, c2, rfl, hlen, h1, h2⟩ := dropD_ok hr hc
        obtain ⟨k1, k2⟩ := setD_ok hl hp h2 hd
        refine ⟨by simp [pOff]; omega, ?_⟩
        have e : splice (c1 ++ c2) (k + pOff p) d = c1 ++ splice c2 (pOff p) d := by rw [← hlen, splice_left]
        simp only [pOff]
        rw [e]
        exact h1.append k2
      · cases h
    · cases h
  | .ix i m sz :: p, its, its', new, cs, d, h, hp, hc, hd => by
    simp only [setD] at h
    split at h
    · rename_i s m' ys r
      split at h
      · rename_i hm
        subst hm
        split at h
        · rename_i hz
          subst hz
          split at h
          · rename_i l hl
            split at h
            · rename_i y hy
              simp only [Option.some.injEq] at h
              subst h
              cases hc with
              | one _ _ u c2 hv hu hr => cases hv
              | arr _ _ _ _ c c2 hk h1 hr =>
                obtain ⟨k1, k2, k3⟩ := id hk
                have hi : i < ys.length := by rw [k1]; exact hp.1
                have hx := k3 i _ (getD_some ys i s.dflt hi)
                obtain ⟨g1, g2⟩ := setD_ok hl hp.2 (Sh.enc_ok hx) hd
                obtain ⟨d1, d2, e1, e2, e3⟩ := Sh.dec_ok hy g2
                cases e3
                rw [List.append_nil] at e1
                subst e1
                obtain ⟨q1, q2⟩ := K_set hk hp.1 e2
                have hle : i * s.sz + s.sz ≤ m' * s.sz := by rw [← Nat.succ_mul]; exact Nat.mul_le_mul_right _ hp.1
                have hlx := Sh.K_len hx
                have hb : i * s.sz + pOff p + d.length ≤ c.length := by omega
                have hs : splice c (i * s.sz) (splice ((c.drop (i * s.sz)).take s.sz) (pOff p) d) = splice c (i * s.sz + pOff p) d := splice_mid (by omega) (by omega)
                refine ⟨by simp [pOff]; omega, ?_⟩
                simp only [pOff]
                rw [splice_right hb, ← hs]
                exact .arr s m' _ _ _ _ q1 (Sh.K_one q1) hr
            · cases h
          · cases h
        · cases h
      · cases h
    · cases h
theorem valT_ok {P : Program} {t : TypeId} {its : List DV} {v : DV} {cs : List Value} (h : valT P t its = some v) (hc : CR I w its cs) :
    (multiT P t = true ∧ VR I w v (.agg cs.toArray)) ∨ (multiT P t = false ∧ (P.underlying t).isSome = true ∧ ∃ u, cs = [u] ∧ VR I w v u ∧ u.oneCell' = true) := by
  unfold valT at h
  split at h
  · rename_i hm
    simp only [Option.some.injEq] at h
    subst h
    exact .inl ⟨hm, .agg _ _ (by simpa using hc)⟩
  · rename_i hm
    split at h
    · rename_i hud
      split at h
      · cases h
      · rename_i d hd
        simp only [Option.some.injEq] at h
        subst h
        cases hc with
        | arr s n xs _ _ _ _ _ _ => exact absurd rfl (hd s n xs)
        | one _ _ u c2 hv hu hr => cases hr; exact .inr ⟨by simpa using hm, hud, u, rfl, hv, hu⟩
      · cases h
    · cases h
theorem layD_ok : ∀ {l : List (Option (Nat × Sh))} {its out : List DV} {cs : List Value}, layD l its = some out → CR I w its cs → CR I w out cs
  | [], its, out, cs, h, hc => by
    cases its with
    | nil => simp only [layD, Option.some.injEq] at h; subst h; exact hc
    | cons a b => simp [layD] at h
  | none :: l, its, out, cs, h, hc => by
    simp only [layD] at h
    split at h
    · cases h
    · rename_i x r hx
      split at h
      · rename_i l' hl'
        simp only [Option.some.injEq] at h
        subst h
        obtain ⟨c1, c2, rfl, _, h1, h2⟩ := hc.head
        exact h1.cons (layD_ok hl' h2)
      · cases h
    · cases h
  | some (m, s) :: l, its, out, cs, h, hc => by
    simp only [layD] at h
    split at h
    · rename_i ys r hy
      split at h
      · rename_i l' hl'
        simp only [Option.some.injEq] at h
        subst h
        obtain ⟨d1, d2, rfl, k1, k2⟩ := Sh.dec_ok hy hc
        exact .arr s m ys _ _ _ k1 (Sh.K_one k1) (layD_ok hl' k2)
      · cases h
    · cases h
end Go.Proofs.Dk

/- Names and blocks. -/
namespace Go.Proofs.Dk
open Go Go.RowKit
set_option linter.unusedVariables false

theorem pick_bare : ∀ (ks : List (List Int)) (vs : List DV) (n : Int), pickD ks (bareL vs) n = (pickD ks vs n).map DV.bare
  | [], vs, n => by cases vs <;> rfl
  | l :: ks, [], n => rfl
  | l :: ks, v :: vs, n => by
    simp only [bareL, pickD]
    split
    · rfl
    · exact pick_bare ks vs n
theorem pick_sub {m : Nat} {g : Sub} : ∀ (ks : List (List Int)) (vs : List DV) (n : Int), pickD ks (subL m g vs) n = (pickD ks vs n).map (DV.sub m g)
  | [], vs, n => by cases vs <;> rfl
  | l :: ks, [], n => rfl
  | l :: ks, v :: vs, n => by
    simp only [subL, pickD]
    split
    · rfl
    · exact pick_sub ks vs n
section
variable {I I' : In} {w w' : World}
structure Same (I I' : In) (w w' : World) : Prop where
  keeps : Keeps I.R I'.R w w'
  obj : ∀ n b, I.ι n = some (.obj b) → I'.ι n = some (.obj b)
  row : ∀ n sz v, I.ι n = some (.row sz v) → I'.ι n = some (.row sz v)
theorem CR.immKeep (hk : Keeps I.R I'.R w w') : ∀ {d : List DV} {v : List Value}, CR I w d v → (∀ x ∈ d, x.imm = true) → CR I' w' d v
  | _, _, .nil, _ => .nil
  | _, _, .one d r u cs h hu hr, hi => by
    have h1 := hi d (List.mem_cons_self ..)
    refine .one d r u cs ?_ hu (CR.immKeep hk hr (fun x hx => hi x (List.mem_cons_of_mem _ hx)))
    cases h with
    | sc _ h => exact .sc _ h
    | vs s xs _ h => exact .vs s xs _ (Sh.K_keep hk h)
    | _ => cases h1
  | _, _, .arr s n xs r c cs h h1 hr, hi => .arr s n xs r c cs (Sh.K_keep hk h) h1 (CR.immKeep hk hr (fun x hx => hi x (List.mem_cons_of_mem _ hx)))
mutual
theorem VR.keep (hs : Same I I' w w') : ∀ {d : DV} {v : Value}, VR I w d v → VR I' w' d v
  | _, _, .undef v => .undef v
  | _, _, .sc v h => .sc v h
  | _, _, .ptr n o p b h hp => .ptr n o p b (hs.obj _ _ h) hp
  | _, _, .rp n sz i p b len cap h hi hp => .rp n sz i p b len cap (hs.row _ _ _ h) hi hp
  | _, _, .pi its a cs h0 hR him h hc => .pi its a cs h0 (hs.keeps.sub _ hR) him (CR.immKeep hs.keeps h him) (fun j u hu => (cell_same (by rw [add_block]; exact hs.keeps.same _ hR)).trans (hc j u hu))
  | _, _, .rw n sz v h h2 => .rw n sz v (hs.row _ _ _ h) h2
  | _, _, .sl n o l sz A A' len cap cap' h hl h0 h1 hc => .sl n o l sz A A' len cap cap' (hs.row _ _ _ h) hl h0 h1 hc
  | _, _, .vs s xs v h => .vs s xs v (Sh.K_keep hs.keeps h)
  | _, _, .fn F a b a' b' h1 h2 => .fn F a b a' b' (LR.keep hs h1) (LR.keep hs h2)
  | _, _, .agg ds cs h => .agg ds cs (CR.keep hs h)
  | _, _, .tup ds vs h => .tup ds vs (LR.keep hs h)
  | _, _, .tab ks vs us b es cl hR hb hE h => .tab ks vs us b es cl (hs.keeps.sub _ hR) ((hs.keeps.same _ hR).trans hb) hE (fun n d hp => VR.keep hs (h n d hp))
  | _, _, .mh n b h => .mh n b (hs.obj _ _ h)
theorem CR.keep (hs : Same I I' w w') : ∀ {d : List DV} {v : List Value}, CR I w d v → CR I' w' d v
  | _, _, .nil => .nil
  | _, _, .one d r u cs h hu hr => .one d r u cs (VR.keep hs h) hu (CR.keep hs hr)
  | _, _, .arr s n xs r c cs h h1 hr => .arr s n xs r c cs (Sh.K_keep hs.keeps h) h1 (CR.keep hs hr)
theorem LR.keep (hs : Same I I' w w') : ∀ {d : List DV} {v : List Value}, LR I w d v → LR I' w' d v
  | _, _, .nil => .nil
  | _, _, .cons d r u vs h hr => .cons d r u vs (VR.keep hs h) (LR.keep hs hr)
end
structure ObjS (I I' : In) (w w' : World) : Prop where
  keeps : Keeps I.R I'.R w w'
  obj : ∀ n b, I.ι n = some (.obj b) → I'.ι n = some (.obj b)
mutual
theorem VR.bare (hs : ObjS I I' w w') : ∀ {d : DV} {v : Value}, VR I w d v → VR I' w' d.bare v
  | _, _, .undef v => .undef v
  | _, _, .sc v h => .sc v h
  | _, _, .ptr n o p b h hp => .ptr n o p b (hs.obj _ _ h) hp
  | _, _, .rp n sz i p b len cap h hi hp => .undef _
  | _, _, .pi its a cs h0 hR him h hc => .pi its a cs h0 (hs.keeps.sub _ hR) him (CR.immKeep hs.keeps h him) (fun j u hu => (cell_same (by rw [add_block]; exact hs.keeps.same _ hR)).trans (hc j u hu))
  | _, _, .rw n sz v h h2 => .undef _
  | _, _, .sl n o l sz A A' len cap cap' h hl h0 h1 hc => .undef _
  | _, _, .vs s xs v h => .vs s xs v (Sh.K_keep hs.keeps h)
  | _, _, .fn F a b a' b' h1 h2 => .fn F _ _ a' b' (LR.bare hs h1) (LR.bare hs h2)
  | _, _, .agg ds cs h => .agg _ cs (CR.bare hs h)
  | _, _, .tup ds vs h => .tup _ vs (LR.bare hs h)
  | _, _, .tab ks vs us b es cl hR hb hE h => .tab ks _ us b es cl (hs.keeps.sub _ hR) ((hs.keeps.same _ hR).trans hb) (hE.map (pick_bare ks vs)) (fun n d hp => by
      rw [pick_bare] at hp
      obtain ⟨d0, h0, rfl⟩ := Option.map_eq_some_iff.1 hp
      exact VR.bare hs (h n d0 h0))
  | _, _, .mh n b h => .mh n b (hs.obj _ _ h)
theorem CR.bare (hs : ObjS I I' w w') : ∀ {d : List DV} {v : List Value}, CR I w d v → CR I' w' (bareL d) v
  | _, _, .nil => .nil
  | _, _, .one d r u cs h hu hr => .one _ _ u cs (VR.bare hs h) hu (CR.bare hs hr)
  | _, _, .arr s n xs r c cs h h1 hr => .arr s n xs _ c cs (Sh.K_keep hs.keeps h) h1 (CR.bare hs hr)
theorem LR.bare (hs : ObjS I I' w w') : ∀ {d : List DV} {v : List Value}, LR I w d v → LR I' w' (bareL d) v
  | _, _, .nil => .nil
  | _, _, .cons d r u vs h hr => .cons _ _ u vs (VR.bare hs h) (LR.bare hs hr)
end
structure But (n : Nat) (g : Sub) (I I' : In) (w w' : World) : Prop where
  keeps : Keeps I.R I'.R w w'
  obj : ∀ m b, I.ι m = some (.obj b) → I'.ι m = some (.obj b)
  row : ∀ m sz v, m ≠ n → I.ι m = some (.row sz v) → I'.ι m = some (.row sz v)
  sub : ∀ s xs, g = .vs s xs → ∀ sz v, I.ι n = some (.row sz v) → sz = s.sz ∧ (Sh.sl s).K I'.R w' xs [v]
theorem K_part {R : Nat → Prop} {s : Sh} {xs : List s.T} {A A' : Option Addr} {len cap cap' o l : Nat} (h : (Sh.sl s).K R w xs [.slice A len cap]) (hl : o + l ≤ len) (h1 : 0 < l → ∃ b, A = some ⟨b, 0, none⟩ ∧ A' = some ⟨b, o * s.sz, none⟩) (hc : l ≤ cap') : (Sh.sl s).K R w ((xs.drop o).take l) [.slice A' l cap'] := by
  obtain ⟨A0, cap0, e, h2, h3⟩ := h
  simp only [List.cons.injEq, Value.slice.injEq, and_true] at e
  obtain ⟨rfl, rfl, rfl⟩ := e
  have hlen : ((xs.drop o).take l).length = l := by simp; omega
  refine ⟨A', cap', by rw [hlen], by omega, fun hn => ?_⟩
  have hlp : 0 < l := by
    rcases Nat.eq_zero_or_pos l with h0 | h0
    · exact absurd (List.eq_nil_of_length_eq_zero (by omega)) hn
    · exact h0
  obtain ⟨b, rfl, rfl⟩ := h1 hlp
  have hx : xs ≠ [] := by
    intro e
    rw [e] at hl
    simp at hl
    omega
  obtain ⟨a, e1, e2, e3, e4⟩ := h3 hx
  simp only [Option.some.injEq] at e1
  subst e1
  refine ⟨_, rfl, rfl, e3, fun i x hx => ?_⟩
  have hx2 : xs[o + i]? = some x := by
    rw [List.getElem?_take] at hx
    split at hx
    · rw [List.getElem?_drop] at hx
      exact hx
    · cases hx
  obtain ⟨c, g1, g2, g3⟩ := e4 _ x hx2
  refine ⟨c, g1, g2, fun j u hu => ?_⟩
  have := g3 j u hu
  rw [Addr.add_mid] at this ⊢
  rw [← this]
  congr 2
  rw [Nat.add_mul]
  omega
mutual
theorem VR.sub {n : Nat} {g : Sub} (hs : But n g I I' w w') : ∀ {d : DV} {v : Value}, VR I w d v → VR I' w' (d.sub n g) v
  | _, _, .undef v => .undef v
  | _, _, .sc v h => .sc v h
  | _, _, .ptr m o p b h hp => .ptr m o p b (hs.obj _ _ h) hp
  | _, _, .rp m sz i p b len cap h hi hp => by
    simp only [DV.sub]
    split
    · exact .undef _
    · rename_i hm
      exact .rp m sz i p b len cap (hs.row _ _ _ hm h) hi hp
  | _, _, .pi its a cs h0 hR him h hc => .pi its a cs h0 (hs.keeps.sub _ hR) him (CR.immKeep hs.keeps h him) (fun j u hu => (cell_same (by rw [add_block]; exact hs.keeps.same _ hR)).trans (hc j u hu))
  | _, _, .rw m sz v h h2 => by
    simp only [DV.sub]
    split
    · rename_i hm
      subst hm
      cases g with
      | none => exact .undef _
      | vs s xs => exact .vs s xs v (hs.sub s xs rfl _ _ h).2
    · rename_i hm
      exact .rw m sz v (hs.row _ _ _ hm h) h2
  | _, _, .sl m o l sz A A' len cap cap' h hl h0 h1 hc => by
    simp only [DV.sub]
    split
    · rename_i hm
      subst hm
      cases g with
      | none => exact .undef _
      | vs s xs =>
        obtain ⟨rfl, hk⟩ := hs.sub s xs rfl _ _ h
        exact .vs s _ _ (K_part hk hl h1 hc)
    · rename_i hm
      exact .sl m o l sz A A' len cap cap' (hs.row _ _ _ hm h) hl h0 h1 hc
  | _, _, .vs s xs v h => .vs s xs v (Sh.K_keep hs.keeps h)
  | _, _, .fn F a b a' b' h1 h2 => .fn F _ _ a' b' (LR.sub hs h1) (LR.sub hs h2)
  | _, _, .agg ds cs h => .agg _ cs (CR.sub hs h)
  | _, _, .tup ds vs h => .tup _ vs (LR.sub hs h)
  | _, _, .tab ks vs us b es cl hR hb hE h => .tab ks _ us b es cl (hs.keeps.sub _ hR) ((hs.keeps.same _ hR).trans hb) (hE.map (pick_sub ks vs)) (fun m d hp => by
      rw [pick_sub] at hp
      obtain ⟨d0, h0, rfl⟩ := Option.map_eq_some_iff.1 hp
      exact VR.sub hs (h m d0 h0))
  | _, _, .mh m b h => .mh m b (hs.obj _ _ h)
theorem CR.sub {n : Nat} {g : Sub} (hs : But n g I I' w w') : ∀ {d : List DV} {v : List Value}, CR I w d v → CR I' w' (subL n g d) v
  | _, _, .nil => .nil
  | _, _, .one d r u cs h hu hr => .one _ _ u cs (VR.sub hs h) hu (CR.sub hs hr)
  | _, _, .arr s m xs r c cs h h1 hr => .arr s m xs _ c cs (Sh.K_keep hs.keeps h) h1 (CR.sub hs hr)
theorem LR.sub {n : Nat} {g : Sub} (hs : But n g I I' w w') : ∀ {d : List DV} {v : List Value}, LR I w d v → LR I' w' (subL n g d) v
  | _, _, .nil => .nil
  | _, _, .cons d r u vs h hr => .cons _ _ u vs (VR.sub hs h) (LR.sub hs hr)
end
end

def MR (I : In) (w : World) (n : Nat) (ks : List (List Int)) (vs : List DV) : Prop := ∃ b es clock val, I.ι n = some (.obj b) ∧ w.heap[b]? = some (.map es clock) ∧ TabE ks vs val es.toList ∧ ∀ m d, pickD ks vs m = some d → VR I w d (val m)
theorem MR.keep {I I' : In} {w w' : World} {n : Nat} {ks : List (List Int)} {vs : List DV} (hs : Same I I' w w') (h : MR I w n ks vs) (hb : ∀ b, I.ι n = some (.obj b) → w'.heap[b]? = w.heap[b]?) : MR I' w' n ks vs := by
  obtain ⟨b, es, cl, val, h1, h2, h3, h4⟩ := h
  exact ⟨b, es, cl, val, hs.obj _ _ h1, (hb b h1).trans h2, h3, fun m d hd => VR.keep hs (h4 m d hd)⟩
theorem MR.sub {I I' : In} {w w' : World} {n m : Nat} {g : Sub} {ks : List (List Int)} {vs : List DV} (hs : But m g I I' w w') (h : MR I w n ks vs) (hb : ∀ b, I.ι n = some (.obj b) → w'.heap[b]? = w.heap[b]?) : MR I' w' n ks (subL m g vs) := by
  obtain ⟨b, es, cl, val, h1, h2, h3, h4⟩ := h
  refine ⟨b, es, cl, val, hs.obj _ _ h1, (hb b h1).trans h2, h3.map (pick_sub ks vs), fun j d hd => ?_⟩
  rw [pick_sub] at hd
  obtain ⟨d0, h0, rfl⟩ := Option.map_eq_some_iff.1 hd
  exact VR.sub hs (h4 j d0 h0)
structure HR (I : In) (w : World) (H : Heap) : Prop where
  obj : ∀ n cs, H n = some (.obj cs) → ∃ b c t, I.ι n = some (.obj b) ∧ w.heap[b]? = some (.cells c t (0, 0)) ∧ CR I w cs c.toList
  row : ∀ n E s xs, H n = some (.row E s xs) → ∃ v cs, I.ι n = some (.row s.sz v) ∧ w.ownsRow 0 E s.sz v xs.length cs ∧ (Sh.arr xs.length s).K I.R w xs cs
  mp : ∀ n ks vs, H n = some (.mp ks vs) → MR I w n ks vs
  dom : ∀ n, H n = none → I.ι n = none
  lt : ∀ n e b, I.ι n = some e → e.blk = some b → b < w.heap.size ∧ ¬ I.R b
  inj : ∀ n m e e' b, I.ι n = some e → I.ι m = some e' → e.blk = some b → e'.blk = some b → n = m
  rlt : ∀ b, I.R b → b < w.heap.size
structure Ext (I : In) (w : World) (I' : In) (w' : World) : Prop where
  obj : ∀ n b, I.ι n = some (.obj b) → I'.ι n = some (.obj b)
  ro : ∀ b, I.R b → I'.R b
  same : ∀ b, b < w.heap.size → (∀ n e, I.ι n = some e → e.blk ≠ some b) → w'.heap[b]? = w.heap[b]?
  own : ∀ n e b, I'.ι n = some e → e.blk = some b → (∃ m e', I.ι m = some e' ∧ e'.blk = some b) ∨ w.heap.size ≤ b
  newR : ∀ b, I'.R b → I.R b ∨ (∃ m e', I.ι m = some e' ∧ e'.blk = some b) ∨ w.heap.size ≤ b
  size : w.heap.size ≤ w'.heap.size
  os : w'.os = w.os
  tape : w'.tape = w.tape
  output : w'.output = w.output
theorem Ext.refl (I : In) (w : World) : Ext I w I w := ⟨fun _ _ h => h, fun _ h => h, fun _ _ _ => rfl, fun n e b h hb => .inl ⟨n, e, h, hb⟩, fun _ h => .inl h, Nat.le_refl _, rfl, rfl, rfl⟩
theorem Ext.trans {I I1 I2 : In} {w w1 w2 : World} (h : Ext I w I1 w1) (k : Ext I1 w1 I2 w2) : Ext I w I2 w2 := by
  refine ⟨fun n b hb => k.obj n b (h.obj n b hb), fun b hb => k.ro b (h.ro b hb), fun b hb hn => ?_, fun n e b he hb => ?_, fun b hb => ?_, Nat.le_trans h.size k.size, k.os.trans h.os, k.tape.trans h.tape, k.output.trans h.output⟩
  · rw [k.same b (Nat.lt_of_lt_of_le hb h.size) (fun n e he heb => ?_), h.same b hb hn]
    rcases h.own n e b he heb with ⟨m, e', h1, h2⟩ | h1
    · exact hn m e' h1 h2
    · omega
  · rcases k.own n e b he hb with ⟨m, e', h1, h2⟩ | h1
    · exact h.own m e' b h1 h2
    · exact .inr (Nat.le_trans h.size h1)
  · rcases k.newR b hb with h1 | ⟨m, e', h1, h2⟩ | h1
    · exact h.newR b h1
    · exact .inr (h.own m e' b h1 h2)
    · exact .inr (.inr (Nat.le_trans h.size h1))
theorem Ext.keeps {I I' : In} {w w' : World} {H : Heap} (h : Ext I w I' w') (hH : HR I w H) : Keeps I.R I'.R w w' :=
  ⟨h.ro, fun b hb => h.same b (hH.rlt b hb) (fun n e he heb => (hH.lt n e b he heb).2 hb)⟩
theorem Ext.toObj {I I' : In} {w w' : World} {H : Heap} (h : Ext I w I' w') (hH : HR I w H) : ObjS I I' w w' := ⟨h.keeps hH, h.obj⟩
end Go.Proofs.Dk

/- Operations: what looks at values alone; loads. -/
namespace Go.Proofs.Dk
open Go Go.RowKit
set_option linter.unusedVariables false

structure TR (I : In) (w : World) (T : List DV) (a : Act) : Prop where
  len : T.length ≤ a.tmps.size
  val : ∀ i, VR I w (T.getD i .undef) (a.tmps.getD i undef)
  df : a.defers = []
section
variable {P : Program} {I : In} {w : World} {T : List DV} {a : Act} {H : Heap}
theorem cells_one {v : Value} (h : v.oneCell' = true) : v.cells = #[v] := by cases v <;> first | rfl | cases h
theorem ofV_ok (v : Value) : VR I w (ofV v) v := by
  have hC : ∀ cs : List Value, (cs.all (·.oneCell')) = true → CR I w (cs.map .sc) cs := by
    intro cs
    induction cs with
    | nil => intro _; exact .nil
    | cons c r ih =>
      intro h
      simp only [List.all_cons, Bool.and_eq_true] at h
      exact .one _ _ _ _ (.sc _ h.1) h.1 (ih h.2)
  have hL : ∀ cs : List Value, (cs.all (·.oneCell')) = true → LR I w (cs.map .sc) cs := by
    intro cs
    induction cs with
    | nil => intro _; exact .nil
    | cons c r ih =>
      intro h
      simp only [List.all_cons, Bool.and_eq_true] at h
      exact .cons _ _ _ _ (.sc _ h.1) (ih h.2)
  cases v <;> first
    | exact .sc _ rfl
    | (simp only [ofV]; split
       · rename_i h; first | exact .agg _ _ (hC _ h) | exact .tup _ _ (hL _ h)
       · exact .undef _)
theorem evO_ok (hT : TR I w T a) (x : Operand) : VR I w (evO T x) (a.eval x) := by
  cases x with
  | tmp t => exact hT.val t
  | const v => exact ofV_ok v
  | global g => exact .undef _
  | func f => exact .fn _ _ _ _ _ .nil .nil
theorem TR.put (hT : TR I w T a) (d : Option Tmp) {v : DV} {u : Value} (h : VR I w v u) : TR I w (putT T d v) (a.put d u) := by
  cases d with
  | none => exact hT
  | some d =>
    refine ⟨by simp [putT, Act.put, hT.len], fun i => ?_, hT.df⟩
    simp only [putT, Act.put, List.getD_eq_getElem?_getD, List.getElem?_set, Array.getD_eq_getD_getElem?, Array.getElem?_setIfInBounds]
    by_cases e : d = i
    · subst e
      by_cases hl : d < T.length
      · have hl2 : d < a.tmps.size := Nat.lt_of_lt_of_le hl hT.len
        simp [hl, hl2, h]
      · simp only [hl, if_true, if_false, Option.getD_none]
        exact .undef _
    · simp only [e, if_false]
      have := hT.val i
      simpa [List.getD_eq_getElem?_getD, Array.getD_eq_getD_getElem?] using this
structure Rows (I I' : In) : Prop where
  row : ∀ n sz v, I.ι n = some (.row sz v) → I'.ι n = some (.row sz v)
def DoneV (I : In) (w : World) (v : DV) : Next → Prop
  | .value u => VR I w v u
  | .skip => v = .undef
  | _ => False
def Done (P : Program) (o : Oper) (a : Act) (I : In) (w : World) (H : Heap) (v : DV) (act : Actn) : Prop :=
  ∃ I' w' n, (execOp a.eval o).run P w = .ok n w' ∧ Ext I w I' w' ∧ Rows I I' ∧ HR I' w' (H.act act) ∧ DoneV I' w' v n
theorem Done.pure {o : Oper} {v : DV} {u : Value} (hH : HR I w H) (hr : (execOp a.eval o).run P w = .ok (.value u) w) (h : VR I w v u) : Done P o a I w H v none :=
  ⟨I, w, _, hr, Ext.refl I w, ⟨fun _ _ _ h => h⟩, hH, h⟩
theorem run_v {s : Sem Value} {u : Value} {w' : World} (h : s.run P w = .ok u w') : ((do pure (Next.value (← s)) : Sem Next)).run P w = .ok (.value u) w' := by simp [Sem.run_bind, h]
theorem exec_move {o : Oper} {x : Operand} (ho : o.op = .move x) : (execOp a.eval o).run P w = .ok (.value (a.eval x)) w := by unfold execOp; rw [ho]; rfl
theorem exec_assign {o : Oper} {x : Operand} (ho : o.op = .assign x) : (execOp a.eval o).run P w = .ok (.value (a.eval x)) w := by unfold execOp; rw [ho]; rfl

theorem multiT_row {t : TypeId} (h : multiT P t = true) : ∃ d, P.underlying t = some d ∧ d.isRow = true := by
  unfold multiT at h
  split at h
  · rename_i fs hu; exact ⟨_, hu, rfl⟩
  · rename_i m e hu; exact ⟨_, hu, rfl⟩
  · cases h
theorem info_of {t : TypeId} {d : TypeDesc} (h : P.underlying t = some d) : ∃ i, P.info? t = some i := by
  unfold Program.underlying at h
  cases hi : P.info? t with
  | none => rw [hi] at h; cases h
  | some i => exact ⟨i, rfl⟩
theorem run_isAgg {t : TypeId} {d : TypeDesc} (h : P.underlying t = some d) (w : World) : (isAgg t).run P w = .ok d.isRow w := by
  unfold isAgg
  rw [Sem.run_bind, run_underlying h w]
  cases d <;> rfl
theorem multiT_eq {t : TypeId} {d : TypeDesc} (h : P.underlying t = some d) : multiT P t = d.isRow := by
  unfold multiT
  rw [h]
  cases d <;> rfl
theorem run_sizeOf' {t : TypeId} {d : TypeDesc} (h : P.underlying t = some d) (w : World) : (sizeOf t).run P w = .ok (sizeT P t) w := by
  obtain ⟨i, hi⟩ := info_of h
  simp [sizeOf, typeInfo, hi, sizeT]
theorem run_loadVar' {t : TypeId} {ad : Addr} {cs : List Value} {its : List DV} {v : DV} (hl : cs.length = sizeT P t) (hc : ∀ j u, cs[j]? = some u → w.cell? (ad.add j) = some u) (hv : valT P t its = some v) (hC : CR I w its cs) :
    ∃ u, (loadVar t ad).run P w = .ok u w ∧ VR I w v u := by
  rcases valT_ok hv hC with ⟨h1, h2⟩ | ⟨h1, h2, u, rfl, h3, h4⟩
  · obtain ⟨d, hd, hr⟩ := multiT_row h1
    refine ⟨_, ?_, h2⟩
    have hl2 := run_loadCells_list (P := P) w ad cs hc
    simp [loadVar, Sem.run_bind, run_isAgg hd, hr, run_sizeOf' hd, ← hl, hl2]
  · obtain ⟨d, hd⟩ := Option.isSome_iff_exists.1 h2
    refine ⟨u, ?_, h3⟩
    have hr : d.isRow = false := by rw [← multiT_eq hd]; exact h1
    have h0 := hc 0 u rfl
    rw [show ad.add 0 = ad from rfl] at h0
    simp [loadVar, Sem.run_bind, run_isAgg hd, hr, h0]
theorem cell_blk {b j : Nat} {c : Array Value} {t : TypeId} {fr : Nat × Nat} (h : w.heap[b]? = some (.cells c t fr)) : w.cell? ⟨b, j, none⟩ = c.toList[j]? := by
  simp [World.cell?, h]
theorem exec_load {o : Oper} {t : TypeId} {x : Operand} {u : Value} {ad : Addr} (ho : o.op = .load t x) (hx : a.eval x = .pointer (some ad)) (h : (loadVar t ad).run P w = .ok u w) : (execOp a.eval o).run P w = .ok (.value u) w := by
  unfold execOp
  rw [ho]
  refine run_v ?_
  rw [hx]
  simp [Instr.loadAt, Instr.sureAddr, Sem.run_bind, h]
theorem row_cells {n : Nat} {E : TypeId} {s : Sh} {xs : List s.T} (hH : HR I w H) (h : H n = some (.row E s xs)) {sz b len cap : Nat} (hi : I.ι n = some (.row sz (.slice (some ⟨b, 0, none⟩) len cap))) :
    sz = s.sz ∧ len = xs.length ∧ ∃ cs, (Sh.arr xs.length s).K I.R w xs cs ∧ w.ownsRow 0 E s.sz (.slice (some ⟨b, 0, none⟩) len cap) xs.length cs ∧ ∀ j u, cs[j]? = some u → w.cell? ⟨b, j, none⟩ = some u := by
  obtain ⟨v, cs, h1, h2, h3⟩ := hH.row n E s xs h
  rw [hi] at h1
  simp only [Option.some.injEq, Ent.row.injEq] at h1
  obtain ⟨rfl, rfl⟩ := h1
  have hlen : len = xs.length := by
    rcases h2.2 with ⟨e, _⟩ | ⟨g, c, cur, e, _⟩
    · cases e
    · simp only [Value.slice.injEq] at e
      exact e.2.1
  subst hlen
  refine ⟨rfl, rfl, cs, h3, h2, fun j u hu => ?_⟩
  have hj : j < xs.length * s.sz := by
    have := (List.getElem?_eq_some_iff.1 hu).1
    rw [h2.1] at this
    exact this
  rw [h2.cellAt j hj]
  exact hu
theorem load_at {t : TypeId} {d v : DV} {x' : Value} (hx : VR I w d x') (hH : HR I w H) (h : loadD P t H d = some v) : ∃ ad u, x' = .pointer (some ad) ∧ (loadVar t ad).run P w = .ok u w ∧ VR I w v u := by
  cases hx with
  | ptr n off p b hb hp =>
    simp only [loadD] at h
    split at h
    · rename_i cs hcs
      split at h
      · rename_i its hits
        split at h
        · rename_i its' hits'
          obtain ⟨b', c, t', e1, e2, e3⟩ := hH.obj n cs hcs
          rw [hb] at e1
          simp only [Option.some.injEq, Ent.obj.injEq] at e1
          subst e1
          obtain ⟨c1, k1, k2⟩ := atD_ok hits (show pOk (.off off :: p) from hp) e3
          obtain ⟨d1, d2, rfl, hl, k3⟩ := takeD_ok hits' k1
          obtain ⟨u, g1, g2⟩ := run_loadVar' (ad := ⟨b, off + pOff p, none⟩) hl (fun j u hu => by
            rw [Addr.add_mid, cell_blk e2]
            have := k2 j u (by rw [List.getElem?_append_left (List.getElem?_eq_some_iff.1 hu).1]; exact hu)
            simp only [pOff] at this
            exact this) h k3
          exact ⟨_, u, rfl, g1, g2⟩
        · cases h
      · cases h
    · cases h
  | rp n sz i p b len cap hb hi hp =>
    simp only [loadD] at h
    split at h
    · rename_i E s xs hrow
      split at h
      · rename_i hz
        split at h
        · rename_i its hits
          split at h
          · rename_i its' hits'
            obtain ⟨e1, e2, cs, e3, e4, e5⟩ := row_cells hH hrow hb
            subst e2
            have hx2 := e3.2.2 i _ (getD_some xs i s.dflt hi)
            obtain ⟨c1, k1, k2⟩ := atD_ok hits hp (Sh.enc_ok (I := I) hx2)
            obtain ⟨d1, d2, rfl, hl, k3⟩ := takeD_ok hits' k1
            obtain ⟨u, g1, g2⟩ := run_loadVar' (ad := ⟨b, i * sz + pOff p, none⟩) hl (fun j u hu => by
              rw [Addr.add_mid]
              have h3 := k2 j u (by rw [List.getElem?_append_left (List.getElem?_eq_some_iff.1 hu).1]; exact hu)
              rw [List.getElem?_take] at h3
              split at h3
              · rw [List.getElem?_drop] at h3
                refine e5 _ u ?_
                rw [← h3, e1]
                congr 1
                omega
              · cases h3) h k3
            exact ⟨_, u, rfl, g1, g2⟩
          · cases h
        · cases h
      · cases h
    · cases h
  | pi its ad cs h0 hR him hC hc =>
    simp only [loadD] at h
    split at h
    · rename_i its' hits'
      obtain ⟨d1, d2, rfl, hl, k3⟩ := takeD_ok hits' hC
      obtain ⟨u, g1, g2⟩ := run_loadVar' (ad := ad) hl (fun j u hu => hc j u (by rw [List.getElem?_append_left (List.getElem?_eq_some_iff.1 hu).1]; exact hu)) h k3
      exact ⟨_, u, rfl, g1, g2⟩
    · cases h
  | _ => simp [loadD] at h
theorem load_ok {o : Oper} {t : TypeId} {x : Operand} {v : DV} (ho : o.op = .load t x) (hT : TR I w T a) (hH : HR I w H) (h : loadD P t H (evO T x) = some v) : Done P o a I w H v none := by
  obtain ⟨ad, u, h1, h2, h3⟩ := load_at (evO_ok hT x) hH h
  exact Done.pure hH (exec_load ho h1 h2) h3
end
end Go.Proofs.Dk

/- Operations: what looks at values alone. -/
namespace Go.Proofs.Dk
open Go Go.RowKit
set_option linter.unusedVariables false
set_option linter.unusedSimpArgs false
section
variable {P : Program} {I : In} {w : World} {T : List DV} {a : Act} {H : Heap} {α : Type}

theorem VR.sc_eq {v u : Value} (h : VR I w (.sc v) u) : u = v := by cases h; rfl
def Makes (P : Program) (I : In) (w : World) (s : Sem Value) (v : DV) : Prop := ∃ u, s.run P w = .ok u w ∧ VR I w v u
theorem pickK_ok {c x y : DV} {c' x' y' : Value} {k : DV → Option α} {r : α} (hc : VR I w c c') (hx : VR I w x x') (hy : VR I w y y') (h : pickK c x y k = some r) :
    ∃ v, k v = some r ∧ Makes P I w (do pure (if ← asBool c' then x' else y')) v := by
  cases hc with
  | sc _ hv =>
    cases c' with
    | bool t =>
      have gen : ∀ h' : (if t = true then k x else k y) = some r, ∃ v, k v = some r ∧ Makes P I w (do pure (if ← asBool (.bool t) then x' else y')) v := by
        intro h'
        cases t
        · exact ⟨y, by simpa using h', y', by simp [asBool], hy⟩
        · exact ⟨x, by simpa using h', x', by simp [asBool], hx⟩
      simp only [pickK] at h
      split at h
      · cases hx with | sc _ _ => cases hy with | sc _ _ =>
          exact ⟨_, h, _, rfl, by cases t <;> exact .sc _ rfl⟩
      · split at h
        · rename_i hk
          subst hk
          cases hx with | sc _ _ => cases hy with | sc _ _ =>
            exact ⟨_, h, _, rfl, by cases t <;> exact .sc _ rfl⟩
        · cases h
      · exact gen h
    | _ => simp [pickK] at h
  | _ => simp [pickK] at h

theorem sizeT_cells (t : TypeId) : sizeT P t = P.cellsOf t := by
  unfold sizeT Program.cellsOf
  cases P.info? t <;> rfl
def vOf (P : Program) (t : TypeId) (cs : List Value) : Value := if multiT P t then .agg cs.toArray else cs.headD undef
theorem part_ok {t : TypeId} {d : TypeDesc} {cs : List Value} {o : Nat} (hu : P.underlying t = some d) (hl : o + sizeT P t ≤ cs.length) (h1 : multiT P t = false → sizeT P t = 1) :
    (part t cs.toArray o).run P w = .ok (vOf P t ((cs.drop o).take (sizeT P t))) w := by
  unfold part vOf
  rw [Sem.run_bind, run_isAgg hu, Result.andThen_ok, multiT_eq hu]
  cases hr : d.isRow with
  | true =>
    simp only [if_true, Sem.run_bind, run_sizeOf' hu, Result.andThen_ok, Sem.run_pure]
    congr 2
    apply Array.ext'
    simp [List.extract_eq_take_drop]
  | false =>
    have h2 := h1 (by rw [multiT_eq hu, hr])
    have h3 : o < cs.length := by omega
    have h4 : cs[o]? = some cs[o] := List.getElem?_eq_getElem h3
    simp only [Bool.false_eq_true, if_false, List.getElem?_toArray, h4, Sem.run_pure]
    congr 1
    rw [h2, List.headD_eq_head?_getD, List.head?_take, if_neg (by omega), List.head?_drop, h4]
    rfl
theorem cmpT_size : ∀ {d : Nat} {t : TypeId} {s : Sh}, cmpT P d t s = true → sizeT P t = s.sz ∧ 0 < s.sz ∧ ∃ D, P.underlying t = some D ∧ (D.isRow = false → s.sz = 1)
  | 0, _, _, h => by cases h
  | d + 1, t, s, h => by
    simp only [cmpT, Bool.and_eq_true, beq_iff_eq, decide_eq_true_eq] at h
    obtain ⟨⟨h1, h0⟩, h2⟩ := h
    refine ⟨h1, h0, ?_⟩
    split at h2 <;> first
      | (rename_i hu; exact ⟨_, hu, fun _ => rfl⟩)
      | (rename_i hu; exact ⟨_, hu, fun h => by cases h⟩)
      | cases h2
theorem eqF_ok {R : Nat → Prop} {d m : Nat} (ih : ∀ {t : TypeId} {s : Sh} {x y : s.T} {cs ds : List Value}, cmpT P d t s = true → s.K R w x cs → s.K R w y ds → (Op.equalIn m t (vOf P t cs) (vOf P t ds)).run P w = .ok (s.eqT x y) w) :
    ∀ {fs : List Field} {o : Nat} {s : Sh} {x y : s.T} {cs ds : List Value}, cmpL (cmpT P d) P o fs s = true → s.K R w x (cs.drop o) → s.K R w y (ds.drop o) →
    (Op.eqFields m cs.toArray ds.toArray fs).run P w = .ok (s.eqT x y) w
  | [], _, _, _, _, _, _, h, _, _ => by simp [cmpL] at h
  | [g], o, s, x, y, cs, ds, h, hx, hy => by
    have h' : g.name ≠ "_" ∧ g.offset = o ∧ cmpT P d g.type s = true := by
      cases s <;> simpa [cmpL, and_assoc] using h
    obtain ⟨h1, h2, h3⟩ := h'
    obtain ⟨z1, z0, D, z2, z3⟩ := cmpT_size h3
    have l1 := Sh.K_len hx
    have l2 := Sh.K_len hy
    have hm : multiT P g.type = false → sizeT P g.type = 1 := fun hh => by rw [z1]; exact z3 (by rw [← multiT_eq z2]; exact hh)
    simp only [List.length_drop] at l1 l2
    simp only [Op.eqFields, ne_eq, h1, not_false_eq_true, if_true, Sem.run_bind]
    rw [h2, part_ok (cs := cs) z2 (by omega) hm, Result.andThen_ok, part_ok (cs := ds) z2 (by omega) hm, Result.andThen_ok]
    have e1 : (cs.drop o).take (sizeT P g.type) = cs.drop o := List.take_of_length_le (by rw [List.length_drop]; omega)
    have e2 : (ds.drop o).take (sizeT P g.type) = ds.drop o := List.take_of_length_le (by rw [List.length_drop]; omega)
    rw [e1, e2, ih h3 hx hy, Result.andThen_ok]
    cases s.eqT x y <;> simp [Op.eqFields]
  | g :: g2 :: r, o, s, x, y, cs, ds, h, hx, hy => by
    cases s with
    | pair p q =>
      simp only [cmpL, Bool.and_eq_true, bne_iff_ne, ne_eq, beq_iff_eq] at h
      obtain ⟨⟨⟨h1, h2⟩, h3⟩, h4⟩ := h
      obtain ⟨z1, z0, D, z2, z3⟩ := cmpT_size h3
      obtain ⟨c1, c2, e1, k1, k2⟩ := hx
      obtain ⟨d1, d2, e2, m1, m2⟩ := hy
      have lc := Sh.K_len k1
      have ld := Sh.K_len m1
      have hm : multiT P g.type = false → sizeT P g.type = 1 := fun hh => by rw [z1]; exact z3 (by rw [← multiT_eq z2]; exact hh)
      have n1 : cs.length - o = c1.length + c2.length := by rw [← List.length_drop, e1, List.length_append]
      have n2 : ds.length - o = d1.length + d2.length := by rw [← List.length_drop, e2, List.length_append]
      have t1 : (cs.drop o).take (sizeT P g.type) = c1 := by rw [e1, z1, ← lc]; simp
      have t2 : (ds.drop o).take (sizeT P g.type) = d1 := by rw [e2, z1, ← ld]; simp
      have u1 : cs.drop (o + p.sz) = c2 := by rw [← List.drop_drop, e1, ← lc]; simp
      have u2 : ds.drop (o + p.sz) = d2 := by rw [← List.drop_drop, e2, ← ld]; simp
      have ih2 := eqF_ok ih (fs := g2 :: r) (o := o + p.sz) (cs := cs) (ds := ds) h4 (by rw [u1]; exact k2) (by rw [u2]; exact m2)
      rw [Op.eqFields]
      simp only [ne_eq, h1, not_false_eq_true, if_true, Sem.run_bind]
      rw [h2, part_ok (cs := cs) z2 (by omega) hm, Result.andThen_ok, part_ok (cs := ds) z2 (by omega) hm, Result.andThen_ok, t1, t2, ih h3 k1 m1, Result.andThen_ok]
      simp only [Sh.eqT]
      cases p.eqT x.1 y.1
      · simp
      · simpa using ih2
    | _ => simp [cmpL] at h
theorem eqI_ok {R : Nat → Prop} {m : Nat} {e : TypeId} {s : Sh} {n : Nat} {xs ys : List s.T} {cs ds : List Value} (hx : (Sh.arr n s).K R w xs cs) (hy : (Sh.arr n s).K R w ys ds) (z1 : sizeT P e = s.sz) {D : TypeDesc} (z2 : P.underlying e = some D) (hm : multiT P e = false → sizeT P e = 1)
    (ih : ∀ {x y : s.T} {cs ds : List Value}, s.K R w x cs → s.K R w y ds → (Op.equalIn m e (vOf P e cs) (vOf P e ds)).run P w = .ok (s.eqT x y) w) :
    ∀ is : List Nat, (∀ i ∈ is, i < n) → (Op.eqItems m e (P.cellsOf e) cs.toArray ds.toArray is).run P w = .ok (is.all fun i => s.eqT (xs.getD i s.dflt) (ys.getD i s.dflt)) w
  | [], _ => by simp [Op.eqItems]
  | i :: is, hi => by
    have h1 := hi i (List.mem_cons_self ..)
    have ih2 := eqI_ok hx hy z1 z2 hm ih is (fun j hj => hi j (List.mem_cons_of_mem _ hj))
    have hle : i * s.sz + s.sz ≤ n * s.sz := by rw [← Nat.succ_mul]; exact Nat.mul_le_mul_right _ h1
    have g1 := hx.2.2 i _ (getD_some xs i s.dflt (by rw [hx.1]; exact h1))
    have g2 := hy.2.2 i _ (getD_some ys i s.dflt (by rw [hy.1]; exact h1))
    have l1 := hx.2.1
    have l2 := hy.2.1
    rw [Op.eqItems]
    simp only [Sem.run_bind]
    rw [← sizeT_cells, z1, part_ok (cs := cs) z2 (by omega) hm, Result.andThen_ok, part_ok (cs := ds) z2 (by omega) hm, Result.andThen_ok, z1, ih g1 g2, Result.andThen_ok]
    simp only [List.all_cons]
    cases s.eqT (xs.getD i s.dflt) (ys.getD i s.dflt)
    · simp
    · rw [← sizeT_cells, z1] at ih2
      simpa using ih2
theorem cmp_ok {R : Nat → Prop} : ∀ {d m : Nat} {t : TypeId} {s : Sh} {x y : s.T} {cs ds : List Value}, d ≤ m → cmpT P d t s = true → s.K R w x cs → s.K R w y ds → (Op.equalIn m t (vOf P t cs) (vOf P t ds)).run P w = .ok (s.eqT x y) w
  | 0, _, _, _, _, _, _, _, _, h, _, _ => by cases h
  | d + 1, 0, _, _, _, _, _, _, hm, _, _, _ => by omega
  | d + 1, m + 1, t, s, x, y, cs, ds, hm, h, hx, hy => by
    simp only [cmpT, Bool.and_eq_true, beq_iff_eq, decide_eq_true_eq] at h
    obtain ⟨⟨h1, h0⟩, h2⟩ := h
    split at h2
    · rename_i k k' hu
      simp only [beq_iff_eq] at h2
      subst h2
      cases hx
      cases hy
      have : multiT P t = false := by rw [multiT_eq hu]
      simp only [vOf, this, Bool.false_eq_true, if_false, List.headD_cons]
      exact run_equalIn_int w m t _ _ _ _ hu
    · rename_i hu
      cases hx
      cases hy
      have : multiT P t = false := by rw [multiT_eq hu]
      simp only [vOf, this, Bool.false_eq_true, if_false, List.headD_cons]
      exact run_equalIn_bool' w m t _ _ hu
    · rename_i hu
      cases hx
      cases hy
      have : multiT P t = false := by rw [multiT_eq hu]
      simp only [vOf, this, Bool.false_eq_true, if_false, List.headD_cons]
      exact run_equalIn_string w m t _ _ hu
    · rename_i fs hu
      simp only [Bool.and_eq_true, Bool.not_eq_true'] at h2
      have : multiT P t = true := by rw [multiT_eq hu]
      have hf : P.fieldsOf t = fs := by simp [Program.fieldsOf, hu]
      simp only [vOf, this, if_true]
      rw [run_equalIn_struct w m t _ _ (by rw [hf]; exact hu) h2.1, hf]
      exact eqF_ok (fun hc k1 k2 => cmp_ok (by omega) hc k1 k2) h2.2 (by simpa using hx) (by simpa using hy)
    · rename_i n e n' s' hu
      simp only [Bool.and_eq_true, beq_iff_eq] at h2
      obtain ⟨rfl, h3⟩ := h2
      have : multiT P t = true := by rw [multiT_eq hu]
      obtain ⟨z1, z0, D, z2, z3⟩ := cmpT_size h3
      obtain ⟨i, hi⟩ := info_of z2
      simp only [vOf, this, if_true]
      rw [run_equalIn_array w m _ _ hu hi]
      exact eqI_ok hx hy z1 z2 (fun hh => by rw [z1]; exact z3 (by rw [← multiT_eq z2]; exact hh)) (fun k1 k2 => cmp_ok (by omega) h3 k1 k2) _ (fun i hi => List.mem_range.1 hi)
    · cases h2
end
end Go.Proofs.Dk

/- Operations on values. -/
namespace Go.Proofs.Dk
open Go Go.RowKit
set_option linter.unusedVariables false
set_option linter.unusedSimpArgs false
section
variable {P : Program} {I : In} {w : World} {T : List DV} {a : Act} {H : Heap} {α : Type}
theorem pureSem_ok {s : Sem Value} {v : Value} : pureSem P s = some v → s.run P w = .ok v w := by
  induction s with
  | pure b => intro h; simp only [pureSem, Option.some.injEq] at h; subst h; rfl
  | program k ih => intro h; simp only [pureSem] at h; exact ih P h
  | _ => intro h; cases h
theorem ite_both {β : Type} {c : Prop} [Decidable c] {x y r : β} (hx : x = r) (hy : y = r) : (if c then x else y) = r := by split <;> assumption
theorem eqGuard_plain {op : BinOp} {t : TypeId} {x y : Operand} {u v : Value} (h : ∀ cs ds, u = .agg cs → v = .agg ds → False) (h2 : u ≠ .nilIface) : (eqGuard op t x y u v).run P w = .ok () w := by
  unfold eqGuard
  rw [Sem.run_ite]
  refine ite_both rfl ?_
  split
  · exact (h2 rfl).elim
  · exact (h _ _ rfl rfl).elim
  · rfl
theorem eqGuard_agg {op : BinOp} {t : TypeId} {x y : Operand} {cs ds : Array Value} (h : P.eqGuardType P.depth t = false) : (eqGuard op t x y (.agg cs) (.agg ds)).run P w = .ok () w := by
  unfold eqGuard
  rw [Sem.run_ite]
  exact ite_both rfl (by simp [Sem.run_bind, h])
theorem one_int {op : BinOp} {t : TypeId} {ka kb : IntKind} {x y : Int} {v : Value} (h : pureSem P (binOp op t (.int ka x) (.int kb y)) = some v) : v.oneCell' = true := by
  have hi : ∀ {c : Prop} [Decidable c] {s s' : Sem Value}, pureSem P (if c then s else s') = some v → (pureSem P s = some v ∨ pureSem P s' = some v) := by
    intro c _ s s' h
    split at h
    · exact .inl h
    · exact .inr h
  have hn : ∀ {x : String}, pureSem P (stuck x : Sem Value) = some v → v.oneCell' = true := fun h => by cases h
  cases op <;> simp only [binOp] at h <;> first
    | (rcases hi h with h | h
       · cases h
       · first
         | (simp only [Op.intArith, Op.intCmp, pure, pureSem, Option.some.injEq] at h; subst h; rfl)
         | (simp only [Op.intBits, pure, pureSem, Option.some.injEq] at h; subst h; rfl)
         | (simp only [Op.intDiv] at h
            rcases hi h with h | h
            · cases h
            · simp only [pure, pureSem, Option.some.injEq] at h; subst h; rfl))
    | (simp only [Op.shift] at h
       rcases hi h with h | h
       · cases h
       · simp only [pure, pureSem, Option.some.injEq] at h; subst h; rfl)
theorem one_str {op : BinOp} {x y : ByteArray} {v : Value} (h : pureSem P (Op.stringOp op x y) = some v) : v.oneCell' = true := by
  cases op <;> simp only [Op.stringOp] at h <;> first
    | (simp only [pure, pureSem, Option.some.injEq] at h; subst h; rfl)
    | (split at h
       · cases h
       · simp only [pure, pureSem, Option.some.injEq] at h; subst h; rfl)
    | cases h
theorem eq_ptr {t e : TypeId} (hu : P.underlying t = some (.pointer e)) (q : Addr) : (Op.equal t (.pointer (some q)) (.pointer none)).run P w = .ok false w := by
  unfold Op.equal Op.maxDepth
  rw [Op.equalIn, Sem.run_bind, run_underlying hu]
  rfl
theorem eq_nil {t e : TypeId} (hu : P.underlying t = some (.pointer e)) : (Op.equal t (.pointer none) (.pointer none)).run P w = .ok true w := by
  unfold Op.equal Op.maxDepth
  rw [Op.equalIn, Sem.run_bind, run_underlying hu]
  rfl
theorem ptrCase {op : BinOp} {t : TypeId} {x y : Operand} {q : Option Addr} {c : Bool} {k : DV → Option α} {r : α}
    (h : (match op with
    | .eql => match P.underlying t with | some (.pointer _) => k (.sc (.bool c)) | _ => none
    | .neq => match P.underlying t with | some (.pointer _) => k (.sc (.bool !c)) | _ => none
    | _ => none) = some r) (p2 : Option Addr) (hg : (eqGuard op t x y (.pointer q) (.pointer p2)).run P w = .ok () w) (he : ∀ e, P.underlying t = some (.pointer e) → (Op.equal t (.pointer q) (.pointer p2)).run P w = .ok c w) :
    ∃ z, k z = some r ∧ Makes P I w (do eqGuard op t x y (.pointer q) (.pointer p2); binOp op t (.pointer q) (.pointer p2)) z := by
  split at h
  · split at h
    · rename_i e' hu
      refine ⟨_, h, _, ?_, .sc _ rfl⟩
      rw [Sem.run_bind, hg]
      show ((do pure (.bool (← Op.equal t (.pointer q) (.pointer p2))) : Sem Value)).run P w = _
      rw [Sem.run_bind, he _ hu]
      rfl
    · cases h
  · split at h
    · rename_i e' hu
      refine ⟨_, h, _, ?_, .sc _ rfl⟩
      rw [Sem.run_bind, hg]
      show ((do pure (.bool (!(← Op.equal t (.pointer q) (.pointer p2)))) : Sem Value)).run P w = _
      rw [Sem.run_bind, he _ hu]
      rfl
    · cases h
  · cases h
theorem binK_ok {op : BinOp} {t : TypeId} {x y : Operand} {d e : DV} {u v : Value} {k : DV → Option α} {r : α} (hd : VR I w d u) (he : VR I w e v) (h : binK P op t d e k = some r) :
    ∃ z, k z = some r ∧ Makes P I w (do eqGuard op t x y u v; binOp op t u v) z := by
  have guard : ∀ {s : Sem Value} {z : DV}, (eqGuard op t x y u v).run P w = .ok () w → Makes P I w s z → binOp op t u v = s → Makes P I w (do eqGuard op t x y u v; binOp op t u v) z := by
    rintro s z h1 ⟨q, h2, h3⟩ rfl
    exact ⟨q, by rw [Sem.run_bind, h1]; exact h2, h3⟩
  unfold binK at h
  split at h
  · rename_i ka m kb n
    obtain rfl := hd.sc_eq
    obtain rfl := he.sc_eq
    have hg : (eqGuard op t x y (.int ka m) (.int kb n)).run P w = .ok () w := eqGuard_plain (fun _ _ h _ => by cases h) (by simp)
    split at h
    · split at h
      · rename_i hk
        subst hk
        split at h
        · cases h
        · rename_i hn
          refine ⟨_, h, guard hg ⟨_, ?_, .sc _ rfl⟩ rfl⟩
          have : n ≠ 0 := by simpa using hn
          simp [binOp, Op.intDiv, this]
      · cases h
    · split at h
      · rename_i hk
        subst hk
        split at h
        · cases h
        · rename_i hn
          refine ⟨_, h, guard hg ⟨_, ?_, .sc _ rfl⟩ rfl⟩
          have : n ≠ 0 := by simpa using hn
          simp [binOp, Op.intDiv, this]
      · cases h
    · split at h
      · cases h
      · rename_i hn
        refine ⟨_, h, guard hg ⟨_, ?_, .sc _ rfl⟩ rfl⟩
        have : ¬ n < 0 := by simpa using hn
        simp [binOp, Op.shift, this]
    · split at h
      · cases h
      · rename_i hn
        refine ⟨_, h, guard hg ⟨_, ?_, .sc _ rfl⟩ rfl⟩
        have : ¬ n < 0 := by simpa using hn
        simp [binOp, Op.shift, this]
    · split at h
      · rename_i z hz
        exact ⟨_, h, guard hg ⟨_, pureSem_ok hz, .sc _ (one_int hz)⟩ rfl⟩
      · cases h
  · rename_i m n
    obtain rfl := hd.sc_eq
    obtain rfl := he.sc_eq
    have hg : (eqGuard op t x y (.string m) (.string n)).run P w = .ok () w := eqGuard_plain (fun _ _ h _ => by cases h) (by simp)
    split at h
    · split at h
      · rename_i hn
        refine ⟨_, h, guard hg ⟨_, ?_, .sc _ rfl⟩ rfl⟩
        have hn : m.size + n.size ≤ 140737488351232 := by simpa using hn
        have : ¬ ((m.size + n.size : Nat) : Int) > IntKind.i64.max := by
          have : IntKind.max .i64 = 9223372036854775807 := by decide
          omega
        show (Op.stringOp .add m n).run P w = _
        unfold Op.stringOp
        simp only [if_neg this]
        rfl
      · cases h
    · split at h
      · rename_i z hz
        have hb : binOp op t (.string m) (.string n) = Op.stringOp op m n := by cases op <;> rfl
        exact ⟨_, h, guard hg ⟨_, pureSem_ok hz, .sc _ (one_str hz)⟩ hb⟩
      · cases h
  · rename_i m n
    obtain rfl := hd.sc_eq
    obtain rfl := he.sc_eq
    have hg : (eqGuard op t x y (.bool m) (.bool n)).run P w = .ok () w := eqGuard_plain (fun _ _ h _ => by cases h) (by simp)
    split at h
    · split at h
      · rename_i hu
        refine ⟨_, h, guard hg ⟨_, ?_, .sc _ rfl⟩ rfl⟩
        simp [binOp, Sem.run_bind, Op.equal, Op.maxDepth, run_equalIn_bool' w _ t m n hu]
      · cases h
    · split at h
      · rename_i hu
        refine ⟨_, h, guard hg ⟨_, ?_, .sc _ rfl⟩ rfl⟩
        simp [binOp, Sem.run_bind, Op.equal, Op.maxDepth, run_equalIn_bool' w _ t m n hu, bne]
      · cases h
    · cases h
  · rename_i xs ys
    have agg : ∀ {c : Bool}, eqD P t xs ys = some c → ∃ cs ds, u = .agg cs ∧ v = .agg ds ∧ P.eqGuardType P.depth t = false ∧ (Op.equal t u v).run P w = .ok c w := by
      intro c hc
      unfold eqD at hc
      split at hc
      · rename_i s hs
        split at hc
        · rename_i hcm
          simp only [Bool.and_eq_true, Bool.not_eq_true'] at hcm
          split at hc
          · rename_i x1 y1 hx1 hy1
            simp only [Option.some.injEq] at hc
            subst hc
            cases hd with | agg _ cs hcs => cases he with | agg _ ds hds =>
              obtain ⟨c1, c2, e1, k1, k2⟩ := Sh.dec_ok hx1 hcs
              obtain ⟨d1, d2, e2, m1, m2⟩ := Sh.dec_ok hy1 hds
              cases k2
              cases m2
              rw [List.append_nil] at e1 e2
              obtain ⟨z1, z0, D, z2, z3⟩ := cmpT_size hcm.1.2
              refine ⟨cs, ds, rfl, rfl, hcm.2, ?_⟩
              have hmu := hcm.1.1
              have := cmp_ok (P := P) (w := w) (m := Op.maxDepth) (by decide) hcm.1.2 (e1 ▸ k1) (e2 ▸ m1)
              simpa [vOf, hmu, Op.equal] using this
          · cases hc
        · cases hc
      · cases hc
    split at h
    · split at h
      · rename_i c hc
        obtain ⟨cs, ds, rfl, rfl, g1, g2⟩ := agg hc
        refine ⟨_, h, guard (eqGuard_agg g1) ⟨_, ?_, .sc _ rfl⟩ rfl⟩
        simp [binOp, Sem.run_bind, g2]
      · cases h
    · split at h
      · rename_i c hc
        obtain ⟨cs, ds, rfl, rfl, g1, g2⟩ := agg hc
        refine ⟨_, h, guard (eqGuard_agg g1) ⟨_, ?_, .sc _ rfl⟩ rfl⟩
        simp [binOp, Sem.run_bind, g2]
      · cases h
    · cases h
  · cases hd with | ptr n _ _ b hb hp =>
      obtain rfl := he.sc_eq
      exact ptrCase h _ (eqGuard_plain (fun _ _ h _ => by cases h) (by simp)) (fun e hu => eq_ptr hu _)
  · cases hd with | rp n sz i _ b len cap hb hi hp =>
      obtain rfl := he.sc_eq
      exact ptrCase h _ (eqGuard_plain (fun _ _ h _ => by cases h) (by simp)) (fun e hu => eq_ptr hu _)
  · obtain rfl := hd.sc_eq
    obtain rfl := he.sc_eq
    exact ptrCase h _ (eqGuard_plain (fun _ _ h _ => by cases h) (by simp)) (fun e hu => eq_nil hu)
  · cases h
end
end Go.Proofs.Dk

/- Operations on values: addresses, fields, slices, lengths. -/
namespace Go.Proofs.Dk
open Go Go.RowKit
set_option linter.unusedVariables false
set_option linter.unusedSimpArgs false
section
variable {P : Program} {I : In} {w : World} {T : List DV} {a : Act} {H : Heap} {α : Type}
theorem inB_iff {i : Int} {n : Nat} (h : inB i n = true) : 0 ≤ i ∧ i < (n : Int) ∧ i.toNat < n := by
  simp only [inB, Bool.and_eq_true, decide_eq_true_eq] at h
  omega
theorem bt_val (s : ByteArray) (i : Int) (h1 : i.toNat < s.size) : bt s i = ((s[i.toNat]'h1).toNat : Int) := by
  unfold bt
  have : s.data.toList.getD i.toNat 0 = s[i.toNat]'h1 := by
    rw [List.getD_eq_getElem?_getD, List.getElem?_eq_getElem (by simpa using h1)]
    rfl
  rw [this]
theorem run_index_str {t : TypeId} {s : ByteArray} {k : IntKind} {i : Int} (hu : P.underlying t = some .string) (h0 : 0 ≤ i) (h1 : i.toNat < s.size) : (Instr.index t (.string s) (.int k i)).run P w = .ok (.int .u8 (bt s i)) w := by
  rw [bt_val s i h1]
  simp [Instr.index, Sem.run_bind, asIntOf, run_underlying hu, if_pos h0, ByteArray.getElem?_lt' s _ h1]
theorem part_val {t : TypeId} {its : List DV} {cs : List Value} {o : Nat} {v : DV} (hC : CR I w its ((cs.drop o).take (sizeT P t))) (hle : o + sizeT P t ≤ cs.length) (hv : valT P t its = some v) : Makes P I w (part t cs.toArray o) v := by
  rcases valT_ok hv hC with ⟨h1, h2⟩ | ⟨h1, h2, u, he, h3, h4⟩
  · obtain ⟨d, hd, hr⟩ := multiT_row h1
    refine ⟨_, part_ok hd hle (fun h => by rw [h1] at h; cases h), ?_⟩
    simpa [vOf, h1] using h2
  · obtain ⟨d, hd⟩ := Option.isSome_iff_exists.1 h2
    have hs : sizeT P t = 1 := by
      have := congrArg List.length he
      simp at this
      omega
    refine ⟨_, part_ok hd hle (fun _ => hs), ?_⟩
    simpa [vOf, h1, he] using h3
theorem CR.arrH {s : Sh} {n : Nat} {ys : List s.T} {r : List DV} {cs : List Value} (h : CR I w (.arr s n ys :: r) cs) : ∃ c c2, cs = c ++ c2 ∧ (Sh.arr n s).K I.R w ys c ∧ CR I w r c2 := by
  cases h with
  | one _ _ u c2 hv hu hr => cases hv
  | arr _ _ _ _ c c2 hk h1 hr => exact ⟨c, c2, rfl, hk, hr⟩
theorem CR.arr1 {s : Sh} {n : Nat} {ys : List s.T} {cs : List Value} (h : CR I w [.arr s n ys] cs) : (Sh.arr n s).K I.R w ys cs := by
  obtain ⟨c, c2, rfl, h1, h2⟩ := h.arrH
  cases h2
  simpa using h1
theorem run_index_arr {t e : TypeId} {m : Nat} {c : Array Value} {kd : IntKind} {i : Int} (hu : P.underlying t = some (.array m e)) (h0 : 0 ≤ i) (h1 : i < (m : Int)) {D : TypeDesc} (he : P.underlying e = some D) :
    (Instr.index t (.agg c) (.int kd i)).run P w = (part e c (i.toNat * sizeT P e)).run P w := by
  simp [Instr.index, Sem.run_bind, asIntOf, run_underlying hu, h0, h1, run_sizeOf' he]
theorem valT_under {t : TypeId} {its : List DV} {v : DV} (h : valT P t its = some v) : ∃ D, P.underlying t = some D := by
  unfold valT at h
  split at h
  · rename_i hm
    obtain ⟨d, hd, _⟩ := multiT_row hm
    exact ⟨d, hd⟩
  · split at h
    · rename_i hu
      exact Option.isSome_iff_exists.1 hu
    · cases h
theorem arr_elem {R : Nat → Prop} {s : Sh} {n : Nat} {ys : List s.T} {c : List Value} {i : Nat} (hk : (Sh.arr n s).K R w ys c) (hi : i < n) : s.K R w (ys.getD i s.dflt) ((c.drop (i * s.sz)).take s.sz) ∧ i * s.sz + s.sz ≤ c.length := by
  refine ⟨hk.2.2 i _ (getD_some ys i s.dflt (by rw [hk.1]; exact hi)), ?_⟩
  rw [hk.2.1, ← Nat.succ_mul]
  exact Nat.mul_le_mul_right _ hi
theorem indexK_ok {t : TypeId} {d : DV} {u : Value} {kd : IntKind} {i : Int} {k : DV → Option α} {r : α} (hd : VR I w d u) (h : indexK P t d i k = some r) : ∃ v, k v = some r ∧ Makes P I w (Instr.index t u (.int kd i)) v := by
  unfold indexK at h
  split at h
  · obtain rfl := hd.sc_eq
    split at h
    · rename_i hu
      split at h
      · rename_i hb
        obtain ⟨h0, h1, h2⟩ := inB_iff hb
        exact ⟨_, h, _, run_index_str hu h0 h2, .sc _ rfl⟩
      · cases h
    · cases h
  · rename_i cs
    cases hd with | agg _ c hc =>
    split at h
    · rename_i m e hu
      split at h
      · rename_i s m' ys
        split at h
        · rename_i hm
          subst hm
          split at h
          · rename_i hz
            split at h
            · rename_i hb
              obtain ⟨h0, h1, h2⟩ := inB_iff hb
              split at h
              · rename_i v hv
                obtain ⟨D, hD⟩ := valT_under hv
                obtain ⟨g1, g2⟩ := arr_elem hc.arr1 h2
                obtain ⟨q, m1, m2⟩ := part_val (P := P) (cs := c.toList) (o := i.toNat * sizeT P e) (by rw [hz]; exact Sh.enc_ok (I := I) g1) (by rw [hz]; exact g2) hv
                exact ⟨v, h, q, by rw [run_index_arr hu h0 h1 hD]; simpa using m1, m2⟩
              · cases h
            · cases h
          · cases h
        · cases h
      · split at h
        · rename_i hb
          obtain ⟨h0, h1, h2⟩ := inB_iff hb
          split at h
          · rename_i r1 hr1
            split at h
            · rename_i its hits
              split at h
              · rename_i v hv
                obtain ⟨D, hD⟩ := valT_under hv
                obtain ⟨c1, c2, e1, l1, _, k1⟩ := dropD_ok hr1 hc
                obtain ⟨d1, d2, rfl, l2, k2⟩ := takeD_ok hits k1
                have hle := congrArg List.length e1
                simp only [List.length_append] at hle
                have e2 : (c.toList.drop (i.toNat * sizeT P e)).take (sizeT P e) = d1 := by rw [e1, ← l1, ← l2]; simp
                obtain ⟨q, m1, m2⟩ := part_val (P := P) (cs := c.toList) (o := i.toNat * sizeT P e) (by rw [e2]; exact k2) (by omega) hv
                exact ⟨v, h, q, by rw [run_index_arr hu h0 h1 hD]; simpa using m1, m2⟩
              · cases h
            · cases h
          · cases h
        · cases h
    · cases h
  · cases h
theorem fieldOf_ok {t : TypeId} {f o : Nat} {u : TypeId} (h : fieldOf P t f = some (o, u)) : ∃ fs g, P.underlying t = some (.struct fs) ∧ fs[f]? = some g ∧ g.offset = o ∧ g.type = u ∧ sizeT P u ≠ 0 := by
  unfold fieldOf at h
  split at h
  · rename_i fs hu
    split at h
    · rename_i g hg
      split at h
      · cases h
      · rename_i hz
        simp only [Option.some.injEq, Prod.mk.injEq] at h
        exact ⟨fs, g, hu, hg, h.1, h.2, by rw [← h.2]; exact hz⟩
    · cases h
  · cases h
theorem fieldD_ok {t : TypeId} {d v : DV} {u : Value} {f : Nat} (hd : VR I w d u) (h : fieldD P t d f = some v) : Makes P I w (Instr.field t u f) v := by
  unfold fieldD at h
  split at h
  · rename_i o ft hf
    obtain ⟨fs, g, hu, hg, rfl, rfl, hz⟩ := fieldOf_ok hf
    split at h
    · rename_i cs
      cases hd with | agg _ c hc =>
      split at h
      · rename_i r hr
        split at h
        · rename_i its hits
          obtain ⟨D, hD⟩ := valT_under h
          obtain ⟨c1, c2, e1, l1, _, k1⟩ := dropD_ok hr hc
          obtain ⟨d1, d2, rfl, l2, k2⟩ := takeD_ok hits k1
          have hle := congrArg List.length e1
          simp only [List.length_append] at hle
          have e2 : (c.toList.drop g.offset).take (sizeT P g.type) = d1 := by rw [e1, ← l1, ← l2]; simp
          obtain ⟨q, m1, m2⟩ := part_val (P := P) (cs := c.toList) (o := g.offset) (by rw [e2]; exact k2) (by omega) h
          refine ⟨q, ?_, m2⟩
          simp only [Instr.field, Sem.run_bind, run_underlying hu, Result.andThen_ok, hg, asAgg, Sem.run_pure]
          simpa using m1
        · cases h
      · cases h
    · cases h
  · cases h
theorem run_fieldAt {t : TypeId} {f : Nat} {fs : Array Field} {g : Field} {ad : Addr} (hu : P.underlying t = some (.struct fs)) (hg : fs[f]? = some g) (hz : sizeT P g.type ≠ 0) : (Instr.fieldAt t (.pointer (some ad)) f).run P w = .ok (.pointer (some (ad.add g.offset))) w := by
  have hi : ∃ i, P.info? g.type = some i ∧ i.size = sizeT P g.type := by
    unfold sizeT at hz ⊢
    cases hq : P.info? g.type with
    | none => rw [hq] at hz; exact absurd rfl hz
    | some i => exact ⟨i, rfl, rfl⟩
  obtain ⟨i, hi1, hi2⟩ := hi
  have hz2 : i.size ≠ 0 := by rw [hi2]; exact hz
  simp [Instr.fieldAt, Sem.run_bind, run_underlying hu, hg, Instr.sureAddr, fieldPlace, sizeOf, typeInfo, hi1, hz2]
theorem pOff_append (p : List Ix) (k : Nat) : pOff (p ++ [.off k]) = pOff p + k := by
  induction p with
  | nil => simp [pOff]
  | cons x p ih => cases x <;> simp [pOff, ih, Nat.add_assoc]
theorem pOk_append (p : List Ix) (k : Nat) (h : pOk p) : pOk (p ++ [.off k]) := by
  induction p with
  | nil => trivial
  | cons x p ih => cases x with
    | ix i m sz => exact ⟨h.1, ih h.2⟩
    | off k => exact ih h
theorem pOff_ix (p : List Ix) (i m sz : Nat) : pOff (p ++ [.ix i m sz]) = pOff p + i * sz := by
  induction p with
  | nil => simp [pOff]
  | cons x p ih => cases x <;> simp [pOff, ih, Nat.add_assoc]
theorem pOk_ix (p : List Ix) {i m sz : Nat} (hi : i < m) (h : pOk p) : pOk (p ++ [.ix i m sz]) := by
  induction p with
  | nil => exact ⟨hi, trivial⟩
  | cons x p ih => cases x with
    | ix i m sz => exact ⟨h.1, ih h.2⟩
    | off k => exact ih h
theorem add_add' (ad : Addr) (n m : Nat) : (ad.add n).add m = ad.add (n + m) := Go.Deep.add_add ad n m
theorem dropD_imm : ∀ {its r : List DV} {o : Nat}, dropD o its = some r → ∀ d ∈ r, d ∈ its
  | [], r, o, h, d, hd => by
    simp only [dropD] at h
    split at h
    · simp only [Option.some.injEq] at h; subst h; exact hd
    · cases h
  | x :: l, r, o, h, d, hd => by
    simp only [dropD] at h
    split at h
    · simp only [Option.some.injEq] at h; subst h; exact hd
    · split at h
      · exact List.mem_cons_of_mem _ (dropD_imm h d hd)
      · cases h
theorem add_spot {ad : Addr} (h : ad.spot = none) (n : Nat) : (ad.add n).spot = none := by unfold Addr.add; split <;> first | exact h | rfl
theorem fieldAddrD_ok {t : TypeId} {d v : DV} {u : Value} {f : Nat} (hd : VR I w d u) (h : fieldAddrD P t d f = some v) : Makes P I w (Instr.fieldAt t u f) v := by
  unfold fieldAddrD at h
  split at h
  · rename_i o ft hf
    obtain ⟨fs, g, hu, hg, rfl, rfl, hz⟩ := fieldOf_ok hf
    split at h
    · rename_i n o' p
      cases hd with | ptr _ _ _ b hb hp =>
      refine ⟨_, run_fieldAt hu hg hz, ?_⟩
      rw [Addr.add_mid]
      split at h
      · simp only [Option.some.injEq] at h
        subst h
        have := VR.ptr (I := I) (w := w) n (o' + g.offset) [] b hb trivial
        simpa [pOff] using this
      · simp only [Option.some.injEq] at h
        subst h
        have := VR.ptr (I := I) (w := w) n o' (p ++ [.off g.offset]) b hb (pOk_append p _ hp)
        rw [pOff_append, ← Nat.add_assoc] at this
        exact this
    · rename_i n sz i p
      cases hd with | rp _ _ _ _ b len cap hb hi hp =>
      refine ⟨_, run_fieldAt hu hg hz, ?_⟩
      rw [Addr.add_mid]
      simp only [Option.some.injEq] at h
      subst h
      have := VR.rp (I := I) (w := w) n sz i (p ++ [.off g.offset]) b len cap hb hi (pOk_append p _ hp)
      rw [pOff_append, ← Nat.add_assoc] at this
      exact this
    · rename_i its
      cases hd with | pi _ ad cs h0 hR him hC hc =>
      refine ⟨_, run_fieldAt hu hg hz, ?_⟩
      split at h
      · rename_i r hr
        simp only [Option.some.injEq] at h
        subst h
        obtain ⟨c1, c2, rfl, l1, _, k1⟩ := dropD_ok hr hC
        refine .pi r _ c2 (add_spot h0 _) (by rw [add_block]; exact hR) (fun d hd => him d (dropD_imm hr d hd)) k1 (fun j u hu => ?_)
        rw [add_add']
        refine hc _ u ?_
        rw [List.getElem?_append_right (by omega), ← hu]
        congr 1
        omega
      · cases h
    · cases h
  · cases h
end
end Go.Proofs.Dk

/- Operations on values: elements' addresses, slices, lengths. -/
namespace Go.Proofs.Dk
open Go Go.RowKit
set_option linter.unusedVariables false
set_option linter.unusedSimpArgs false
section
variable {P : Program} {I : In} {w : World} {T : List DV} {a : Act} {H : Heap} {α : Type}
theorem szOk_info {e : TypeId} {n : Nat} (h : szOk P e n = true) : ∃ i, P.info? e = some i ∧ i.size = n := by
  unfold szOk at h
  split at h
  · rename_i i hi
    exact ⟨i, hi, by simpa using h⟩
  · cases h
theorem elemOk_ok {t : TypeId} {n : Nat} (h : elemOk P t n = true) : ∃ e i, P.underlying t = some (.slice e) ∧ P.info? e = some i ∧ i.size = n := by
  unfold elemOk at h
  split at h
  · rename_i e hu
    obtain ⟨i, h1, h2⟩ := szOk_info h
    exact ⟨e, i, hu, h1, h2⟩
  · cases h
theorem run_indexAt_slice {t e : TypeId} {i : TypeInfo} {ad : Addr} {len cap : Nat} {kd : IntKind} {j : Int} (hu : P.underlying t = some (.slice e)) (hi : P.info? e = some i) (h0 : 0 ≤ j) (h1 : j < (len : Int)) :
    (Instr.indexAt t (.slice (some ad) len cap) (.int kd j)).run P w = .ok (.pointer (some (ad.add (j.toNat * i.size)))) w := by
  simp [Instr.indexAt, Sem.run_bind, asIntOf, run_underlying hu, h0, h1, sizeOf, typeInfo, hi]
theorem run_indexAt_array {t e : TypeId} {i : TypeInfo} {ad : Addr} {len : Nat} {kd : IntKind} {j : Int} (hu : P.underlying t = some (.array len e)) (hi : P.info? e = some i) (h0 : 0 ≤ j) (h1 : j < (len : Int)) :
    (Instr.indexAt t (.pointer (some ad)) (.int kd j)).run P w = .ok (.pointer (some (ad.add (j.toNat * i.size)))) w := by
  simp [Instr.indexAt, Sem.run_bind, asIntOf, run_underlying hu, h0, h1, sizeOf, typeInfo, hi, Instr.sureAddr]
theorem row_hdr {n : Nat} {E : TypeId} {s : Sh} {xs : List s.T} (hH : HR I w H) (h : H n = some (.row E s xs)) {sz : Nat} {A : Option Addr} {len cap : Nat} (hi : I.ι n = some (.row sz (.slice A len cap))) :
    sz = s.sz ∧ len = xs.length ∧ len ≤ cap ∧ (0 < len → ∃ b, A = some ⟨b, 0, none⟩) := by
  obtain ⟨v, cs, h1, h2, h3⟩ := hH.row n E s xs h
  rw [hi] at h1
  simp only [Option.some.injEq, Ent.row.injEq] at h1
  obtain ⟨rfl, rfl⟩ := h1
  rcases h2.2 with ⟨e, e0⟩ | ⟨g, c, cur, e, _, _, hcap, _⟩
  · simp only [Value.slice.injEq] at e
    obtain ⟨rfl, rfl, rfl⟩ := e
    exact ⟨rfl, by omega, Nat.le_refl _, fun h => by omega⟩
  · simp only [Value.slice.injEq] at e
    obtain ⟨rfl, rfl, rfl⟩ := e
    exact ⟨rfl, rfl, hcap, fun _ => ⟨g, rfl⟩⟩
theorem idxAddrK_ok {t : TypeId} {d : DV} {u : Value} {kd : IntKind} {i : Int} {k : DV → Option α} {r : α} (hH : HR I w H) (hd : VR I w d u) (h : idxAddrK P t H d i k = some r) : ∃ v, k v = some r ∧ Makes P I w (Instr.indexAt t u (.int kd i)) v := by
  unfold idxAddrK at h
  split at h
  · rename_i s xs
    cases hd with | vs _ _ _ hk =>
    split at h
    · rename_i he
      split at h
      · rename_i hb
        obtain ⟨h0, h1, h2⟩ := inB_iff hb
        obtain ⟨e, inf, hu, hi, hs⟩ := elemOk_ok he
        obtain ⟨A, cap, e1, e2, e3⟩ := hk
        simp only [List.cons.injEq, and_true] at e1
        subst e1
        have hne : xs ≠ [] := by
          intro e
          rw [e] at h2
          simp at h2
        obtain ⟨ad, rfl, g1, g2, g3⟩ := e3 hne
        obtain ⟨c, m1, m2, m3⟩ := g3 _ _ (getD_some xs i.toNat s.dflt h2)
        refine ⟨_, h, _, run_indexAt_slice hu hi h0 h1, ?_⟩
        rw [hs]
        exact .pi _ _ c (add_spot g1 _) (by rw [add_block]; exact g2) (Sh.enc_imm s _) (Sh.enc_ok m2) (fun j q hq => by rw [add_add']; exact m3 j q hq)
      · cases h
    · cases h
  · rename_i n
    cases hd with | rw _ sz v hi hs =>
    split at h
    · rename_i E s xs hrow
      split at h
      · rename_i he
        split at h
        · rename_i hb
          obtain ⟨h0, h1, h2⟩ := inB_iff hb
          obtain ⟨A, l, c, rfl⟩ := hs
          obtain ⟨rfl, rfl, _, hA⟩ := row_hdr hH hrow hi
          obtain ⟨b, rfl⟩ := hA (by omega)
          obtain ⟨e, inf, hu, hinf, hsz⟩ := elemOk_ok he
          refine ⟨_, h, _, run_indexAt_slice hu hinf h0 h1, ?_⟩
          rw [hsz, Addr.add_mid, Nat.zero_add]
          exact .rp n s.sz i.toNat [] b _ c hi h2 trivial
        · cases h
      · cases h
    · cases h
  · rename_i n o l
    cases hd with | sl _ _ _ sz A A' len cap cap' hi hl h0' h1' hc' =>
    split at h
    · rename_i E s xs hrow
      split at h
      · rename_i he
        split at h
        · rename_i hb
          obtain ⟨h0, h1, h2⟩ := inB_iff hb
          obtain ⟨rfl, rfl, _, hA⟩ := row_hdr hH hrow hi
          obtain ⟨b, rfl, rfl⟩ := h1' (by omega)
          obtain ⟨e, inf, hu, hinf, hsz⟩ := elemOk_ok he
          refine ⟨_, h, _, run_indexAt_slice hu hinf h0 h1, ?_⟩
          rw [hsz, Addr.add_mid, ← Nat.add_mul]
          have := VR.rp (I := I) (w := w) n s.sz (o + i.toNat) [] b _ cap hi (by omega) trivial
          simpa [pOff] using this
        · cases h
      · cases h
    · cases h
  · rename_i n o p
    cases hd with | ptr _ _ _ b hb hp =>
    split at h
    · rename_i m e hu
      split at h
      · rename_i cs hcs
        split at h
        · rename_i its hits
          split at h
          · rename_i s m' ys r' hat
            split at h
            · rename_i hm
              subst hm
              split at h
              · rename_i hz
                split at h
                · rename_i hbd
                  obtain ⟨h0, h1, h2⟩ := inB_iff hbd
                  obtain ⟨inf, hinf, hsz⟩ := szOk_info hz
                  refine ⟨_, h, _, run_indexAt_array hu hinf h0 h1, ?_⟩
                  rw [hsz, Addr.add_mid]
                  have := VR.ptr (I := I) (w := w) n o (p ++ [.ix i.toNat m' s.sz]) b hb (pOk_ix p h2 hp)
                  rw [pOff_ix, ← Nat.add_assoc] at this
                  exact this
                · cases h
              · cases h
            · cases h
          · split at h
            · split at h
              · rename_i hz
                split at h
                · rename_i hbd
                  obtain ⟨h0, h1, h2⟩ := inB_iff hbd
                  obtain ⟨inf, hinf, hsz⟩ := szOk_info hz
                  refine ⟨_, h, _, run_indexAt_array hu hinf h0 h1, ?_⟩
                  rw [hsz, Addr.add_mid]
                  have := VR.ptr (I := I) (w := w) n (o + i.toNat * sizeT P e) [] b hb trivial
                  simpa [pOff] using this
                · cases h
              · cases h
            · cases h
          · cases h
        · cases h
      · cases h
    · cases h
  · rename_i its
    cases hd with | pi _ ad cs h0' hR him hC hc =>
    split at h
    · rename_i m e hu
      split at h
      · rename_i s m' ys r'
        split at h
        · rename_i hm
          subst hm
          split at h
          · rename_i hz
            split at h
            · rename_i hbd
              obtain ⟨h0, h1, h2⟩ := inB_iff hbd
              obtain ⟨inf, hinf, hsz⟩ := szOk_info hz
              obtain ⟨c1, c2, rfl, k1, k2⟩ := hC.arrH
              obtain ⟨g1, g2⟩ := arr_elem k1 h2
              refine ⟨_, h, _, run_indexAt_array hu hinf h0 h1, ?_⟩
              rw [hsz]
              refine .pi _ _ _ (add_spot h0' _) (by rw [add_block]; exact hR) (Sh.enc_imm s _) (Sh.enc_ok g1) (fun j q hq => ?_)
              rw [add_add']
              refine hc _ q ?_
              rw [List.getElem?_take] at hq
              split at hq
              · rw [List.getElem?_drop] at hq
                rw [List.getElem?_append_left (List.getElem?_eq_some_iff.1 hq).1]
                exact hq
              · cases hq
            · cases h
          · cases h
        · cases h
      · cases h
    · cases h
  · cases h
theorem lenD_ok {t ty : TypeId} {d : DV} {u : Value} {n : Nat} (hH : HR I w H) (hd : VR I w d u) (h : lenD P t H d = some n) : (Builtin.len_ #[t] ty #[u]).run P w = .ok (.int .i64 (n : Int)) w := by
  unfold lenD at h
  split at h
  · rename_i hu
    split at h
    · simp only [Option.some.injEq] at h
      obtain rfl := hd.sc_eq
      subst h
      simp [Builtin.len_, Sem.run_bind, run_underlying hu, goInt]
    · cases h
  · rename_i e hu
    have fin : ∀ A l c, u = .slice A l c → l = n → (Builtin.len_ #[t] ty #[u]).run P w = .ok (.int .i64 (n : Int)) w := by
      rintro A l c rfl rfl
      simp [Builtin.len_, Sem.run_bind, run_underlying hu, goInt]
    split at h
    · split at h
      · rename_i hz
        simp only [Option.some.injEq] at h
        obtain rfl := hd.sc_eq
        exact fin _ _ _ rfl (by omega)
      · cases h
    · simp only [Option.some.injEq] at h
      cases hd with | vs _ _ _ hk =>
      obtain ⟨A, cap, e1, _⟩ := hk
      simp only [List.cons.injEq, and_true] at e1
      exact fin _ _ _ e1 h
    · split at h
      · rename_i E s xs hrow
        simp only [Option.some.injEq] at h
        cases hd with | rw _ sz v hi hs =>
        obtain ⟨A, l, c, rfl⟩ := hs
        obtain ⟨_, h2, _⟩ := row_hdr hH hrow hi
        exact fin _ _ _ rfl (by omega)
      · cases h
    · simp only [Option.some.injEq] at h
      cases hd with | sl _ _ _ sz A A' len cap cap' hi hl h0' h1' hc' => exact fin _ _ _ rfl h
    · cases h
  · rename_i m e hu
    simp only [Option.some.injEq] at h
    subst h
    simp only [Builtin.len_, List.getElem?_toArray, List.getElem?_cons_zero]
    rw [Sem.run_bind, run_underlying hu, Result.andThen_ok]
    cases u <;> rfl
  · cases h
theorem boundK_ok {d : DV} {u : Value} {n : Nat} {k : Nat → Option α} {r : α} (hd : VR I w d u) (h : boundK d n k = some r) : ∃ l, k l = some r ∧ l ≤ n ∧ ∀ y c, n ≤ y → (Instr.sliceBound u y c).run P w = .ok l w := by
  unfold boundK at h
  split at h
  · rename_i kd i
    obtain rfl := hd.sc_eq
    split at h
    · rename_i hc
      simp only [Bool.and_eq_true, decide_eq_true_eq] at hc
      refine ⟨_, h, by omega, fun y c hy => ?_⟩
      have : i ≤ (y : Int) := by omega
      simp [Instr.sliceBound, Sem.run_bind, asIntOf, hc, this]
    · cases h
  · cases h
theorem lowK_ok {lo : Option DV} {lo' : Option Value} {k : Nat → Nat → Option α} {q : Nat} {r : α} (hlo : (lo = none ∧ lo' = none) ∨ ∃ d u, lo = some d ∧ lo' = some u ∧ VR I w d u) (h : lowK lo k q = some r) : ∃ l, k l q = some r ∧ l ≤ q ∧ ((match lo' with
    | some v => Instr.sliceBound v q .sliceB
    | none => pure 0) : Sem Nat).run P w = .ok l w := by
  rcases hlo with ⟨rfl, rfl⟩ | ⟨d, u, rfl, rfl, hd⟩
  · exact ⟨0, h, Nat.zero_le _, rfl⟩
  · obtain ⟨l, h1, h2, h3⟩ := boundK_ok (P := P) (k := fun l => k l q) hd h
    exact ⟨l, h1, h2, h3 q .sliceB (Nat.le_refl _)⟩
theorem boundsK_ok {n cap : Nat} {lo hi : Option DV} {lo' hi' : Option Value} {k : Nat → Nat → Option α} {r : α} (b : Bool) (hcap : n ≤ cap) (hlo : (lo = none ∧ lo' = none) ∨ ∃ d u, lo = some d ∧ lo' = some u ∧ VR I w d u) (hhi : (hi = none ∧ hi' = none) ∨ ∃ d u, hi = some d ∧ hi' = some u ∧ VR I w d u)
    (h : boundsK n lo hi k = some r) : ∃ l q, k l q = some r ∧ l ≤ q ∧ q ≤ n ∧ (Instr.sliceBounds b n cap lo' hi' none).run P w = .ok (l, q, cap) w := by
  unfold boundsK at h
  rcases hhi with ⟨rfl, rfl⟩ | ⟨d, u, rfl, rfl, hd⟩
  · obtain ⟨l, h1, h2, h3⟩ := lowK_ok (P := P) hlo h
    refine ⟨l, n, h1, h2, Nat.le_refl _, ?_⟩
    cases lo' with
    | none => simp only [Instr.sliceBounds, Sem.run_bind, Sem.run_pure, Result.andThen_ok] at h3 ⊢; simp_all
    | some v => simp only [Instr.sliceBounds, Sem.run_bind, Sem.run_pure, Result.andThen_ok, Option.isSome_none, Bool.false_eq_true, if_false] at h3 ⊢; rw [h3]; rfl
  · obtain ⟨q, h1, h2, h3⟩ := boundK_ok (P := P) (k := lowK lo k) hd h
    obtain ⟨l, g1, g2, g3⟩ := lowK_ok (P := P) hlo h1
    refine ⟨l, q, g1, g2, h2, ?_⟩
    cases lo' with
    | none => simp only [Instr.sliceBounds, Sem.run_bind, Sem.run_pure, Result.andThen_ok, h3 cap _ hcap] at g3 ⊢; simp_all
    | some v => simp only [Instr.sliceBounds, Sem.run_bind, Sem.run_pure, Result.andThen_ok, h3 cap _ hcap, Option.isSome_none, Bool.false_eq_true, if_false] at g3 ⊢; rw [g3]; rfl
theorem K_sub {R : Nat → Prop} {s : Sh} {xs : List s.T} {A : Option Addr} {cap l q : Nat} (h : (Sh.sl s).K R w xs [.slice A xs.length cap]) (h1 : l ≤ q) (h2 : q ≤ xs.length) :
    (Sh.sl s).K R w ((xs.take q).drop l) [.slice (if cap = l then A else A.map (·.add (l * s.sz))) (q - l) (cap - l)] := by
  obtain ⟨A0, cap0, e, g2, g3⟩ := h
  simp only [List.cons.injEq, Value.slice.injEq, and_true, true_and] at e
  obtain ⟨rfl, rfl⟩ := e
  have hlen : ((xs.take q).drop l).length = q - l := by simp; omega
  refine ⟨_, _, by rw [hlen], by rw [hlen]; omega, fun hn => ?_⟩
  have hlt : l < q := by
    rcases Nat.lt_or_ge l q with h | h
    · exact h
    · exact absurd (List.eq_nil_of_length_eq_zero (by omega)) hn
  have hne : xs ≠ [] := by
    intro e
    rw [e] at h2
    simp at h2
    omega
  obtain ⟨ad, rfl, m1, m2, m3⟩ := g3 hne
  rw [if_neg (by omega)]
  refine ⟨_, rfl, add_spot m1 _, by rw [add_block]; exact m2, fun i x hx => ?_⟩
  have hx2 : xs[l + i]? = some x := by
    rw [List.getElem?_drop, List.getElem?_take] at hx
    split at hx
    · exact hx
    · cases hx
  obtain ⟨c, k1, k2, k3⟩ := m3 _ x hx2
  refine ⟨c, k1, k2, fun j u hu => ?_⟩
  have := k3 j u hu
  rw [add_add', ← this]
  congr 2
  rw [Nat.add_mul]
  omega
theorem sliceK_ok {t : TypeId} {d : DV} {u : Value} {lo hi mx : Option DV} {lo' hi' mx' : Option Value} {k : DV → Option α} {r : α} (hH : HR I w H) (hd : VR I w d u) (hlo : (lo = none ∧ lo' = none) ∨ ∃ d u, lo = some d ∧ lo' = some u ∧ VR I w d u) (hhi : (hi = none ∧ hi' = none) ∨ ∃ d u, hi = some d ∧ hi' = some u ∧ VR I w d u) (hmx : mx = none → mx' = none)
    (h : sliceK P t H d lo hi mx k = some r) : ∃ v, k v = some r ∧ Makes P I w (Instr.sliceAt t u lo' hi' mx') v := by
  unfold sliceK at h
  split at h
  · cases h
  · obtain rfl := hmx rfl
    split at h
    · rename_i s hu
      obtain rfl := hd.sc_eq
      obtain ⟨l, q, h1, h2, h3, h4⟩ := boundsK_ok (P := P) false (Nat.le_refl _) hlo hhi h
      refine ⟨_, h1, _, ?_, .sc _ rfl⟩
      simp [Instr.sliceAt, Instr.slice, Sem.run_bind, run_underlying hu, h4]
    · rename_i e s xs hu
      cases hd with | vs _ _ _ hk =>
      split at h
      · rename_i hz
        obtain ⟨inf, hinf, hsz⟩ := szOk_info hz
        obtain ⟨A, cap, e1, e2, e3⟩ := id hk
        simp only [List.cons.injEq, and_true] at e1
        subst e1
        obtain ⟨l, q, h1, h2, h3, h4⟩ := boundsK_ok (P := P) true e2 hlo hhi h
        refine ⟨_, h1, _, ?_, .vs s _ _ (K_sub hk h2 h3)⟩
        simp [Instr.sliceAt, Instr.slice, Sem.run_bind, run_underlying hu, h4, sizeOf, typeInfo, hinf, hsz]
      · cases h
    · rename_i e n hu
      cases hd with | rw _ sz v hi hs =>
      split at h
      · rename_i E s xs hrow
        split at h
        · rename_i hE
          subst hE
          split at h
          · rename_i hz
            obtain ⟨inf, hinf, hsz⟩ := szOk_info hz
            obtain ⟨A, len, cap, rfl⟩ := hs
            obtain ⟨rfl, rfl, hcap, hA⟩ := row_hdr hH hrow hi
            obtain ⟨l, q, h1, h2, h3, h4⟩ := boundsK_ok (P := P) true hcap hlo hhi h
            refine ⟨_, h1, .slice (if cap = l then A else A.map (·.add (l * s.sz))) (q - l) (cap - l), ?_, ?_⟩
            · simp [Instr.sliceAt, Instr.slice, Sem.run_bind, run_underlying hu, h4, sizeOf, typeInfo, hinf, hsz]
            · refine .sl n l (q - l) s.sz A _ xs.length cap _ hi (by omega) (fun h0 => ?_) (fun hp => ?_) (by omega)
              · subst h0
                refine ⟨?_, by omega⟩
                split
                · rfl
                · cases A <;> simp [show ∀ ad : Addr, ad.add 0 = ad from fun _ => rfl]
              · obtain ⟨b, rfl⟩ := hA (by omega)
                refine ⟨b, rfl, ?_⟩
                rw [if_neg (by omega)]
                simp [Addr.add_mid]
          · cases h
        · cases h
      · cases h
    · rename_i e n o m hu
      cases hd with | sl _ _ _ sz A A' len cap cap' hi hl h0' h1' hc' =>
      split at h
      · rename_i E s xs hrow
        split at h
        · rename_i hE
          subst hE
          split at h
          · rename_i hz
            obtain ⟨inf, hinf, hsz⟩ := szOk_info hz
            obtain ⟨rfl, rfl, hcap, hA⟩ := row_hdr hH hrow hi
            obtain ⟨l, q, h1, h2, h3, h4⟩ := boundsK_ok (P := P) true hc' hlo hhi h
            refine ⟨_, h1, .slice (if cap' = l then A' else A'.map (·.add (l * s.sz))) (q - l) (cap' - l), ?_, ?_⟩
            · simp [Instr.sliceAt, Instr.slice, Sem.run_bind, run_underlying hu, h4, sizeOf, typeInfo, hinf, hsz]
            · refine .sl n (o + l) (q - l) s.sz A _ xs.length cap _ hi (by omega) (fun h0 => ?_) (fun hp => ?_) (by omega)
              · have ho : o = 0 := by omega
                have hl0 : l = 0 := by omega
                subst ho
                subst hl0
                obtain ⟨rfl, rfl⟩ := h0' rfl
                refine ⟨?_, by omega⟩
                split
                · rfl
                · cases A' <;> simp [show ∀ ad : Addr, ad.add 0 = ad from fun _ => rfl]
              · obtain ⟨b, rfl, rfl⟩ := h1' (by omega)
                refine ⟨b, rfl, ?_⟩
                rw [if_neg (by omega)]
                simp [Addr.add_mid, Nat.add_mul]
          · cases h
        · cases h
      · cases h
    · cases h
end
end Go.Proofs.Dk

/- Operations that lay blocks, or write. -/
namespace Go.Proofs.Dk
open Go Go.RowKit
set_option linter.unusedVariables false
set_option linter.unusedSimpArgs false
section
variable {P : Program} {I : In} {w : World} {T : List DV} {a : Act} {H : Heap} {α : Type}
theorem items_ok {d : DV} {v : Value} (h : VR I w d v) (hs : d.storable = true) : CR I w d.items v.cells.toList := by
  have one : ∀ {d : DV} {v : Value}, VR I w d v → v.oneCell' = true → CR I w [d] v.cells.toList := by
    intro d v h h1
    rw [cells_one h1]
    exact .one _ _ _ _ h h1 .nil
  cases h with
  | undef v => cases hs
  | sc v h1 => exact one (.sc _ h1) h1
  | ptr n o p b h1 hp => exact one (.ptr n o p b h1 hp) rfl
  | rp n sz i p b len cap h1 hi hp => exact one (.rp n sz i p b len cap h1 hi hp) rfl
  | pi its ad cs h0 hR him hC hc => exact one (.pi its ad cs h0 hR him hC hc) rfl
  | rw n sz v h1 h2 =>
    obtain ⟨A, l, c, rfl⟩ := id h2
    exact one (.rw n sz _ h1 h2) rfl
  | sl n o l sz A A' len cap cap' h1 hl h0 h1' hc => exact one (.sl n o l sz A A' len cap cap' h1 hl h0 h1' hc) rfl
  | vs s xs v hk =>
    have := Sh.K_one hk v (by simp)
    exact one (.vs s xs v hk) this
  | fn F a b a' b' h1 h2 => exact one (.fn F a b a' b' h1 h2) rfl
  | agg ds cs hc => exact hc
  | tup ds vs h => cases hs
  | tab ks vs us b es cl hR hb hE h => exact one (.tab ks vs us b es cl hR hb hE h) rfl
  | mh n b h => exact one (.mh n b h) rfl
def In.put (I : In) (n : Nat) (e : Ent) : In := ⟨fun m => if m = n then some e else I.ι m, I.R⟩
theorem In.put_same {I : In} {n : Nat} {e : Ent} : (I.put n e).ι n = some e := by simp [In.put]
theorem In.put_ne {I : In} {n m : Nat} {e : Ent} (h : m ≠ n) : (I.put n e).ι m = I.ι m := by simp [In.put, h]
theorem Heap.set_same {H : Heap} {n : Nat} {b : Option Blk} : H.set n b n = b := by simp [Heap.set]
theorem Heap.set_ne {H : Heap} {n m : Nat} {b : Option Blk} (h : m ≠ n) : H.set n b m = H m := by simp [Heap.set, h]
theorem alloc_old' (w : World) (o : Obj) {b : Nat} (h : b < w.heap.size) : (w.alloc o).heap[b]? = w.heap[b]? := Below.heap_alloc w o b h
theorem alloc_new' (w : World) (o : Obj) : (w.alloc o).heap[w.heap.size]? = some o := Go.heap_alloc_new w o
theorem alloc_size' (w : World) (o : Obj) : (w.alloc o).heap.size = w.heap.size + 1 := World.size_alloc w o
theorem Same.alloc (hH : HR I w H) {n : Nat} (hn : H n = none) (e : Ent) (o : Obj) : Same I (I.put n e) w (w.alloc o) := by
  have h0 := hH.dom n hn
  refine ⟨⟨fun b h => h, fun b h => alloc_old' w o (hH.rlt b h)⟩, fun m b h => ?_, fun m sz v h => ?_⟩
  · rw [In.put_ne]
    · exact h
    · rintro rfl; rw [h0] at h; cases h
  · rw [In.put_ne]
    · exact h
    · rintro rfl; rw [h0] at h; cases h
def BR (I : In) (w : World) (n : Nat) : Blk → Prop
  | .obj cs => ∃ b c t, I.ι n = some (.obj b) ∧ w.heap[b]? = some (.cells c t (0, 0)) ∧ CR I w cs c.toList
  | .row E s xs => ∃ v cs, I.ι n = some (.row s.sz v) ∧ w.ownsRow 0 E s.sz v xs.length cs ∧ (Sh.arr xs.length s).K I.R w xs cs
  | .mp ks vs => MR I w n ks vs
theorem HR.br (hH : HR I w H) {n : Nat} {b : Blk} (h : H n = some b) : BR I w n b := by
  cases b with
  | obj cs => exact hH.obj n cs h
  | row E s xs => exact hH.row n E s xs h
  | mp ks vs => exact hH.mp n ks vs h
theorem HR.of {I : In} {w : World} {H : Heap} (h : ∀ n b, H n = some b → BR I w n b) (dom : ∀ n, H n = none → I.ι n = none) (lt : ∀ n e b, I.ι n = some e → e.blk = some b → b < w.heap.size ∧ ¬ I.R b)
    (inj : ∀ n m e e' b, I.ι n = some e → I.ι m = some e' → e.blk = some b → e'.blk = some b → n = m) (rlt : ∀ b, I.R b → b < w.heap.size) : HR I w H :=
  ⟨fun n cs h1 => h n _ h1, fun n E s xs h1 => h n _ h1, fun n ks vs h1 => h n _ h1, dom, lt, inj, rlt⟩
theorem ownsRow_same {w w' : World} {base : Nat} {E : TypeId} {sz : Nat} {v : Value} {n : Nat} {xs : List Value} (h : w.ownsRow base E sz v n xs) (hb : ∀ b, v.ownBlock = some b → w'.heap[b]? = w.heap[b]?) : w'.ownsRow base E sz v n xs := by
  refine ⟨h.1, ?_⟩
  rcases h.2 with h1 | ⟨g, cap, cur, rfl, h2, h3, h4⟩
  · exact .inl h1
  · exact .inr ⟨g, cap, cur, rfl, h2, (hb g rfl).trans h3, h4⟩
theorem BR.keep {I I' : In} {w w' : World} (hs : Same I I' w w') {n : Nat} {b : Blk} (h : BR I w n b) (hb : ∀ e g, I.ι n = some e → e.blk = some g → w'.heap[g]? = w.heap[g]?) : BR I' w' n b := by
  cases b with
  | obj cs =>
    obtain ⟨b, c, t, h1, h2, h3⟩ := h
    exact ⟨b, c, t, hs.obj _ _ h1, (hb _ b h1 rfl).trans h2, CR.keep hs h3⟩
  | row E s xs =>
    obtain ⟨v, cs, h1, h2, h3⟩ := h
    exact ⟨v, cs, hs.row _ _ _ h1, ownsRow_same h2 (fun g hg => hb _ g h1 hg), Sh.K_keep hs.keeps h3⟩
  | mp ks vs => exact MR.keep hs h (fun b hb' => hb _ b hb' rfl)
theorem HR.alloc (hH : HR I w H) {n : Nat} (hn : H n = none) {e : Ent} {o : Obj} (he : ∀ b, e.blk = some b → b = w.heap.size) {b : Blk} (hb : BR (I.put n e) (w.alloc o) n b) : HR (I.put n e) (w.alloc o) (H.set n (some b)) := by
  have h0 := hH.dom n hn
  have hs := Same.alloc hH hn e o
  refine HR.of (fun m b' h => ?_) (fun m h => ?_) (fun m e' b' h hb' => ?_) (fun m m' e1 e2 b' h1 h2 g1 g2 => ?_) (fun b' h => ?_)
  · by_cases hm : m = n
    · subst hm
      rw [Heap.set_same] at h
      simp only [Option.some.injEq] at h
      subst h
      exact hb
    · rw [Heap.set_ne hm] at h
      exact (hH.br h).keep hs (fun e' g h1 h2 => alloc_old' w o (hH.lt m e' g h1 h2).1)
  · by_cases hm : m = n
    · subst hm; rw [Heap.set_same] at h; cases h
    · rw [Heap.set_ne hm] at h
      rw [In.put_ne hm]
      exact hH.dom m h
  · rw [alloc_size']
    by_cases hm : m = n
    · subst hm
      rw [In.put_same] at h
      simp only [Option.some.injEq] at h
      subst h
      have := he b' hb'
      subst this
      exact ⟨by omega, fun hR => by have := hH.rlt _ hR; omega⟩
    · rw [In.put_ne hm] at h
      obtain ⟨k1, k2⟩ := hH.lt m e' b' h hb'
      exact ⟨by omega, k2⟩
  · by_cases hm : m = n
    · by_cases hm' : m' = n
      · rw [hm, hm']
      · exfalso
        subst hm
        rw [In.put_same] at h1
        rw [In.put_ne hm'] at h2
        simp only [Option.some.injEq] at h1
        subst h1
        have := he b' g1
        have := (hH.lt m' e2 b' h2 g2).1
        omega
    · by_cases hm' : m' = n
      · exfalso
        subst hm'
        rw [In.put_same] at h2
        rw [In.put_ne hm] at h1
        simp only [Option.some.injEq] at h2
        subst h2
        have := he b' g2
        have := (hH.lt m e1 b' h1 g1).1
        omega
      · rw [In.put_ne hm] at h1
        rw [In.put_ne hm'] at h2
        exact hH.inj m m' e1 e2 b' h1 h2 g1 g2
  · rw [alloc_size']
    have := hH.rlt b' h
    omega
theorem Ext.alloc (hH : HR I w H) {n : Nat} (hn : H n = none) {e : Ent} {o : Obj} (he : ∀ b, e.blk = some b → b = w.heap.size) : Ext I w (I.put n e) (w.alloc o) := by
  have h0 := hH.dom n hn
  refine ⟨fun m b h => ?_, fun b h => h, fun b hb _ => alloc_old' w o hb, fun m e' b h hb => ?_, fun b h => .inl h, by rw [alloc_size']; omega, rfl, rfl, rfl⟩
  · rw [In.put_ne]
    · exact h
    · rintro rfl; rw [h0] at h; cases h
  · by_cases hm : m = n
    · subst hm
      rw [In.put_same] at h
      simp only [Option.some.injEq] at h
      subst h
      exact .inr (by rw [he b hb]; exact Nat.le_refl _)
    · rw [In.put_ne hm] at h
      exact .inl ⟨m, e', h, hb⟩
theorem Rows.alloc (hH : HR I w H) {n : Nat} (hn : H n = none) (e : Ent) : Rows I (I.put n e) := by
  have h0 := hH.dom n hn
  refine ⟨fun m sz v h => ?_⟩
  rw [In.put_ne]
  · exact h
  · rintro rfl; rw [h0] at h; cases h
theorem allocObj {o : Oper} {n : Nat} {its : List DV} {c : Array Value} {t : TypeId} (hH : HR I w H) (hn : H n = none) (hC : CR I w its c.toList) (hr : (execOp a.eval o).run P w = .ok (.value (.pointer (some ⟨w.heap.size, 0, none⟩))) (w.alloc (.cells c t))) :
    Done P o a I w H (.ptr n 0 []) (some (n, .obj its)) := by
  have he : ∀ b, (Ent.obj w.heap.size).blk = some b → b = w.heap.size := fun b h => by simpa [Ent.blk] using h.symm
  refine ⟨I.put n (.obj w.heap.size), _, _, hr, Ext.alloc hH hn he, Rows.alloc hH hn _, ?_, ?_⟩
  · exact HR.alloc hH hn he ⟨w.heap.size, c, t, In.put_same, alloc_new' w _, CR.keep (Same.alloc hH hn _ _) hC⟩
  · have := VR.ptr (I := I.put n (.obj w.heap.size)) (w := w.alloc (.cells c t)) n 0 [] w.heap.size In.put_same trivial
    show VR _ _ _ _
    simpa [pOff] using this
theorem allocRow {o : Oper} {n : Nat} {E : TypeId} {s : Sh} {xs : List s.T} {c : Array Value} (hH : HR I w H) (hn : H n = none) (hk : (Sh.arr xs.length s).K I.R w xs c.toList) (hm : xs.length ≤ maxLen) (hr : (execOp a.eval o).run P w = .ok (.value (.slice (some ⟨w.heap.size, 0, none⟩) xs.length xs.length)) (w.alloc (.cells c E))) :
    Done P o a I w H (.rw n) (some (n, .row E s xs)) := by
  have he : ∀ b, (Ent.row s.sz (.slice (some ⟨w.heap.size, 0, none⟩) xs.length xs.length)).blk = some b → b = w.heap.size := fun b h => by simpa [Ent.blk, Value.ownBlock] using h.symm
  refine ⟨I.put n (.row s.sz (.slice (some ⟨w.heap.size, 0, none⟩) xs.length xs.length)), _, _, hr, Ext.alloc hH hn he, Rows.alloc hH hn _, ?_, ?_⟩
  · refine HR.alloc hH hn he ⟨_, c.toList, In.put_same, ⟨hk.2.1, .inr ⟨w.heap.size, xs.length, c, rfl, Nat.zero_le _, alloc_new' w _, Nat.le_refl _, hm, by simpa using hk.2.1, ?_⟩⟩, Sh.K_keep (Same.alloc hH hn _ _).keeps hk⟩
    exact List.take_of_length_le (Nat.le_of_eq hk.2.1)
  · exact VR.rw n s.sz _ In.put_same ⟨_, _, _, rfl⟩
end
end Go.Proofs.Dk

/- Operations that lay blocks, or write: one by one. -/
namespace Go.Proofs.Dk
open Go Go.RowKit
set_option linter.unusedVariables false
set_option linter.unusedSimpArgs false
section
variable {P : Program} {I : In} {w : World} {T : List DV} {a : Act} {H : Heap} {α : Type}
theorem ofV_items {v : Value} (hs : (ofV v).storable = true) : CR I w (ofV v).items v.cells.toList := items_ok (ofV_ok v) hs
theorem zeroT_ok {t : TypeId} {its : List DV} (h : zeroT P t = some its) : ∃ i z, P.info? t = some i ∧ i.zero = some z ∧ CR I w its z.cells.toList := by
  unfold zeroT at h
  split at h
  · rename_i i hi
    split at h
    · rename_i v hv
      split at h
      · rename_i hs
        exact ⟨i, v, hi, hv, layD_ok h (ofV_items hs)⟩
      · cases h
    · cases h
  · cases h
theorem alloc_ok {o : Oper} {e : TypeId} {n : Nat} {its : List DV} (ho : o.op = .alloc e) (hH : HR I w H) (hn : H n = none) (hz : zeroT P e = some its) : Done P o a I w H (.ptr n 0 []) (some (n, .obj its)) := by
  obtain ⟨i, z, hi, h1, h2⟩ := zeroT_ok (I := I) (w := w) hz
  refine allocObj (c := z.cells) (t := e) hH hn h2 ?_
  unfold execOp
  rw [ho]
  refine run_v ?_
  simp [Instr.alloc, zeroValue, typeInfo, Sem.run_bind, hi, h1, newVar, newRow]
theorem box_ok {o : Oper} {e : TypeId} {x : Operand} {n : Nat} {its : List DV} (ho : o.op = .box e x) (hT : TR I w T a) (hH : HR I w H) (hn : H n = none) (hs : (evO T x).storable = true) (hz : layD (layOf P 8 e) (evO T x).items = some its) : Done P o a I w H (.ptr n 0 []) (some (n, .obj its)) := by
  refine allocObj (c := (a.eval x).cells) (t := e) hH hn (layD_ok hz (items_ok (evO_ok hT x) hs)) ?_
  unfold execOp
  rw [ho]
  refine run_v ?_
  simp [Instr.box, Sem.run_bind, newVar, newRow]
theorem zeroK_ok {R : Nat → Prop} : ∀ {s : Sh} {cs r : List Value}, zeroK s cs = some r → ∃ c, cs = c ++ r ∧ s.K R w s.dflt c
  | .int k, cs, r, h => by
    simp only [zeroK] at h
    split at h
    · split at h
      · rename_i hk
        split at h
        · rename_i hn
          simp only [Option.some.injEq] at h
          subst h hk hn
          exact ⟨[_], rfl, rfl⟩
        · cases h
      · cases h
    · cases h
  | .bool, cs, r, h => by
    simp only [zeroK] at h
    split at h
    · split at h
      · cases h
      · rename_i hb
        simp only [Option.some.injEq] at h
        subst h
        simp only [Bool.not_eq_true] at hb
        subst hb
        exact ⟨[_], rfl, rfl⟩
    · cases h
  | .str, cs, r, h => by
    simp only [zeroK] at h
    split at h
    · split at h
      · rename_i hs
        simp only [Option.some.injEq] at h
        subst h hs
        exact ⟨[_], rfl, rfl⟩
      · cases h
    · cases h
  | .pair p q, cs, r, h => by
    simp only [zeroK] at h
    split at h
    · rename_i r1 h1
      obtain ⟨c1, rfl, k1⟩ := zeroK_ok (R := R) h1
      obtain ⟨c2, rfl, k2⟩ := zeroK_ok (R := R) h
      exact ⟨c1 ++ c2, by simp, c1, c2, rfl, k1, k2⟩
    · cases h
  | .sl e, cs, r, h => by
    simp only [zeroK] at h
    split at h
    · split at h
      · rename_i hn
        simp only [Option.some.injEq] at h
        subst h hn
        exact ⟨[_], rfl, none, _, rfl, Nat.zero_le _, fun h => absurd rfl h⟩
      · cases h
    · cases h
  | .arr n e, cs, r, h => by
    simp only [zeroK] at h
    have key : ∀ (n : Nat) (cs : List Value), zeroK.zeroN (zeroK e) n cs = some r → ∃ c, cs = c ++ r ∧ (Sh.arr n e).K R w (List.replicate n e.dflt) c := by
      intro n
      induction n with
      | zero =>
        intro cs h
        simp only [zeroK.zeroN, Option.some.injEq] at h
        subst h
        exact ⟨[], rfl, rfl, by simp, fun i x hx => by simp at hx⟩
      | succ n ih =>
        intro cs h
        simp only [zeroK.zeroN] at h
        split at h
        · rename_i r1 h1
          obtain ⟨c1, rfl, k1⟩ := zeroK_ok (R := R) h1
          obtain ⟨c2, rfl, m1, m2, m3⟩ := ih _ h
          have hl := Sh.K_len k1
          refine ⟨c1 ++ c2, by simp, by simp, by simp [hl, m2, Nat.succ_mul, Nat.add_comm], fun i x hx => ?_⟩
          cases i with
          | zero =>
            simp only [List.replicate_succ, List.getElem?_cons_zero, Option.some.injEq] at hx
            subst hx
            simpa [List.take_append_of_le_length (Nat.le_of_eq hl.symm), List.take_of_length_le (Nat.le_of_eq hl)] using k1
          | succ i =>
            simp only [List.replicate_succ, List.getElem?_cons_succ] at hx
            have := m3 i x hx
            rw [Nat.succ_mul, Nat.add_comm, ← List.drop_drop, List.drop_append_of_le_length (Nat.le_of_eq hl.symm), List.drop_of_length_le (Nat.le_of_eq hl), List.nil_append]
            exact this
        · cases h
    exact key n cs h
theorem K_made {R : Nat → Prop} {s : Sh} {z : Array Value} (hz : s.K R w s.dflt z.toList) (hp : 0 < s.sz) (n : Nat) : (Sh.arr n s).K R w (List.replicate n s.dflt) (madeCells z (n * s.sz)).toList := by
  have hl : z.size = s.sz := by simpa using Sh.K_len hz
  refine ⟨by simp, by simp [madeCells], fun i x hx => ?_⟩
  have hi : i < n := by simpa using (List.getElem?_eq_some_iff.1 hx).1
  have hx2 : x = s.dflt := by
    simp [List.getElem?_replicate, hi] at hx
    exact hx.symm
  subst hx2
  have hle : i * s.sz + s.sz ≤ n * s.sz := by rw [← Nat.succ_mul]; exact Nat.mul_le_mul_right _ hi
  have : ((madeCells z (n * s.sz)).toList.drop (i * s.sz)).take s.sz = z.toList := by
    apply List.ext_getElem?
    intro j
    rw [List.getElem?_take]
    split
    · rename_i hj
      have hm : (i * s.sz + j) % z.size = j := by rw [hl, Nat.mul_comm, Nat.mul_add_mod, Nat.mod_eq_of_lt hj]
      have h2 : i * s.sz + j < n * s.sz := by omega
      have hj2 : j < z.size := by omega
      simp only [madeCells, List.getElem?_drop, Array.getElem?_toList, Array.getElem?_map, Array.getElem?_range, h2, if_true, Option.map_some, hm]
      rw [getElem!_pos z j hj2, Array.getElem?_eq_getElem hj2]
    · rename_i hj
      rw [List.getElem?_eq_none (by simp [hl]; omega)]
  rw [this]
  exact hz
theorem zeroOk_ok {R : Nat → Prop} {e : TypeId} {s : Sh} (h : zeroOk P e s = true) : ∃ i z, P.info? e = some i ∧ i.zero = some z ∧ i.size = s.sz ∧ 0 < s.sz ∧ s.K R w s.dflt z.cells.toList := by
  unfold zeroOk at h
  split at h
  · rename_i i hi
    simp only [Bool.and_eq_true, beq_iff_eq, decide_eq_true_eq] at h
    obtain ⟨⟨h1, h2⟩, h3⟩ := h
    split at h3
    · rename_i z hz
      split at h3
      · rename_i r hr
        obtain ⟨c, e1, k⟩ := zeroK_ok (w := w) (R := R) hr
        have : r = [] := by simpa using h3
        subst this
        rw [List.append_nil] at e1
        exact ⟨i, z, hi, hz, h1, h2, e1 ▸ k⟩
      · cases h3
    · cases h3
  · cases h
theorem makeSlice_ok {o : Oper} {t e : TypeId} {l c : Operand} {s : Sh} {n : Nat} {q m : Int} (ho : o.op = .makeSlice t l c) (hT : TR I w T a) (hH : HR I w H) (hn : H n = none) (hu : P.underlying t = some (.slice e)) (hl : evO T l = .sc (.int .i64 q)) (hc : evO T c = .sc (.int .i64 m))
    (h1 : (decide (0 ≤ q) && (q == m) && decide (q * (bytesT P e : Int) ≤ 140737488355328) && decide (1 ≤ bytesT P e)) = true) (hz : zeroOk P e s = true) : Done P o a I w H (.rw n) (some (n, .row e s (List.replicate q.toNat s.dflt))) := by
  simp only [Bool.and_eq_true, decide_eq_true_eq, beq_iff_eq] at h1
  obtain ⟨⟨⟨h0, rfl⟩, h2⟩, h3⟩ := h1
  obtain ⟨i, z, hi, hz0, hsz, hp, hk⟩ := zeroOk_ok (w := w) (R := I.R) hz
  have hb : bytesT P e = i.bytes := by simp [bytesT, hi]
  rw [hb] at h2 h3
  have hq : q ≤ 140737488355328 := by
    have : q * 1 ≤ q * (i.bytes : Int) := Int.mul_le_mul_of_nonneg_left (by omega) h0
    omega
  have hl2 := hT
  have e1 := evO_ok hT l
  have e2 := evO_ok hT c
  rw [hl] at e1
  rw [hc] at e2
  have e1 := e1.sc_eq
  have e2 := e2.sc_eq
  have hr := run_make (P := P) w t e i z hu hi hz0 .i64 .i64 q q h0 (Int.le_refl _) (by rw [Int.mul_comm]; omega) (by omega)
  rw [hsz] at hr
  have := allocRow (P := P) (a := a) (o := o) (E := e) (s := s) (xs := List.replicate q.toNat s.dflt) (c := madeCells z.cells (q.toNat * s.sz)) hH hn (by rw [List.length_replicate]; exact K_made hk hp q.toNat) (by simp [maxLen]; omega) (by
    unfold execOp
    rw [ho]
    refine run_v ?_
    simp only [e1, e2]
    simpa using hr)
  exact this
theorem setCells_heap : ∀ (d : List Value) (w : World) (b off : Nat) (c : Array Value) (t : TypeId), w.heap[b]? = some (.cells c t (0, 0)) → off + d.length ≤ c.size →
    ∃ c', (w.setCells b off d).heap[b]? = some (.cells c' t (0, 0)) ∧ c'.toList = splice c.toList off d ∧ (∀ g, g ≠ b → (w.setCells b off d).heap[g]? = w.heap[g]?) ∧ (w.setCells b off d).heap.size = w.heap.size ∧ (w.setCells b off d).os = w.os ∧ (w.setCells b off d).tape = w.tape ∧ (w.setCells b off d).output = w.output
  | [], w, b, off, c, t, h, hl => ⟨c, h, by simp [splice], fun _ _ => rfl, rfl, rfl, rfl, rfl⟩
  | v :: d, w, b, off, c, t, h, hl => by
    simp only [List.length_cons] at hl
    have h1 : (w.setCell ⟨b, off, none⟩ v).heap[b]? = some (.cells (c.setIfInBounds off v) t (0, 0)) := by
      simp [World.setCell, Array.getElem?_modify, h]
    obtain ⟨c', k1, k2, k3, k4, k5, k6, k7⟩ := setCells_heap d (w.setCell ⟨b, off, none⟩ v) b (off + 1) _ t h1 (by simp; omega)
    refine ⟨c', k1, ?_, fun g hg => ?_, ?_, k5, k6, k7⟩
    · rw [k2, Array.toList_setIfInBounds]
      obtain ⟨x, y, z, e, hx⟩ : ∃ (x : List Value) (y : Value) (z : List Value), c.toList = x ++ y :: z ∧ x.length = off := by
        have hlt : off < c.toList.length := by simp; omega
        exact ⟨c.toList.take off, c.toList[off], c.toList.drop (off + 1), by rw [← List.drop_eq_getElem_cons hlt, List.take_append_drop], by simp; omega⟩
      rw [e, ← hx]
      have e1 : (x ++ y :: z).set x.length v = x ++ ([v] ++ z) := by simp
      have e2 : x ++ y :: z = x ++ ([y] ++ z) := by simp
      rw [e1, e2]
      have a1 := splice_left (c1 := x) (c2 := [v] ++ z) (d := d) (o := 1)
      have a2 := splice_left (c1 := x) (c2 := [y] ++ z) (d := v :: d) (o := 0)
      rw [a1]
      rw [Nat.add_zero] at a2
      rw [a2]
      simp [splice, List.drop_succ_cons, Nat.add_comm]
    · rw [World.setCells, k3 g hg]
      simp [World.setCell, Array.getElem?_modify, Ne.symm hg]
    · rw [World.setCells, k4]
      simp [World.setCell]
end
end Go.Proofs.Dk

/- Stores; what is built. -/
namespace Go.Proofs.Dk
open Go Go.RowKit
set_option linter.unusedVariables false
set_option linter.unusedSimpArgs false
section
variable {P : Program} {I : In} {w w' : World} {T : List DV} {a : Act} {H : Heap} {α : Type}
theorem Same.write (hH : HR I w H) {n b : Nat} {e : Ent} (hi : I.ι n = some e) (hb : e.blk = some b) (hs : ∀ g, g ≠ b → w'.heap[g]? = w.heap[g]?) : Same I I w w' :=
  ⟨⟨fun _ h => h, fun g hg => hs g (by rintro rfl; exact (hH.lt n e _ hi hb).2 hg)⟩, fun _ _ h => h, fun _ _ _ h => h⟩
theorem HR.write (hH : HR I w H) {n b : Nat} {e : Ent} (hi : I.ι n = some e) (hb : e.blk = some b) (hs : ∀ g, g ≠ b → w'.heap[g]? = w.heap[g]?) (hz : w'.heap.size = w.heap.size) {k : Blk} (hk : BR I w' n k) : HR I w' (H.set n (some k)) := by
  refine HR.of (fun m b' h => ?_) (fun m h => ?_) (fun m e' b' h hb' => ?_) hH.inj (fun b' h => ?_)
  · by_cases hm : m = n
    · subst hm
      rw [Heap.set_same] at h
      simp only [Option.some.injEq] at h
      subst h
      exact hk
    · rw [Heap.set_ne hm] at h
      refine (hH.br h).keep (Same.write hH hi hb hs) (fun e' g h1 h2 => hs g ?_)
      rintro rfl
      exact hm (hH.inj m n e' e g h1 hi h2 hb)
  · by_cases hm : m = n
    · subst hm; rw [Heap.set_same] at h; cases h
    · rw [Heap.set_ne hm] at h
      exact hH.dom m h
  · rw [hz]
    exact hH.lt m e' b' h hb'
  · rw [hz]
    exact hH.rlt b' h
theorem Ext.write {n b : Nat} {e : Ent} (hi : I.ι n = some e) (hb : e.blk = some b) (hs : ∀ g, g ≠ b → w'.heap[g]? = w.heap[g]?) (hz : w'.heap.size = w.heap.size) (ho : w'.os = w.os) (ht : w'.tape = w.tape) (hp : w'.output = w.output) : Ext I w I w' :=
  ⟨fun _ _ h => h, fun _ h => h, fun g _ hn => hs g (by rintro rfl; exact hn n e hi hb), fun m e' b' h hb' => .inl ⟨m, e', h, hb'⟩, fun _ h => .inl h, by omega, ho, ht, hp⟩
theorem exec_store {o : Oper} {t : TypeId} {x y : Operand} {b off : Nat} {v : Value} (ho : o.op = .store t x y) (hx : a.eval x = .pointer (some ⟨b, off, none⟩)) (hy : a.eval y = v) {inf : TypeInfo} (hi : P.info? t = some inf) (hz : inf.size = v.cells.size)
    (hc : ∀ j, j < v.cells.size → (w.cell? ⟨b, off + j, none⟩).isSome = true) (hf : ∀ j, j < v.cells.size → w.frozen? ⟨b, off + j, none⟩ = false) (h1 : ∀ u ∈ v.cells.toList, u.oneCell' = true) :
    (execOp a.eval o).run P w = .ok .skip (w.setCells b off v.cells.toList) := by
  have hr := run_storeCells_cells (P := P) b off v.cells.toList 0 w (fun j hj => by simpa using hc j (by simpa using hj)) (fun j hj => by simpa using hf j (by simpa using hj)) h1
  unfold execOp
  rw [ho]
  show ((do Instr.storeAt t (a.eval x) (a.eval y); pure Next.skip) : Sem Next).run P w = _
  rw [hx, hy]
  simp only [Nat.add_zero] at hr
  simp [Instr.storeAt, Instr.sureAddr, storeVar, Sem.run_bind, sizeOf, typeInfo, hi, hz, hr]
theorem blk_there {b off n : Nat} {c : Array Value} {t : TypeId} (h : w.heap[b]? = some (.cells c t (0, 0))) (hl : off + n ≤ c.size) : (∀ j, j < n → (w.cell? ⟨b, off + j, none⟩).isSome = true) ∧ (∀ j, j < n → w.frozen? ⟨b, off + j, none⟩ = false) := by
  refine ⟨fun j hj => ?_, fun j hj => ?_⟩
  · rw [cell_blk h, List.getElem?_eq_getElem (by simp; omega)]
    rfl
  · simp [World.frozen?, h]
theorem store_ok {o : Oper} {t : TypeId} {x y : Operand} {r : Nat × Blk} (ho : o.op = .store t x y) (hT : TR I w T a) (hH : HR I w H) (h : storeD P t H (evO T x) (evO T y) = some r) : Done P o a I w H .undef (some r) := by
  have hx := evO_ok hT x
  have hy := evO_ok hT y
  unfold storeD at h
  split at h
  · rename_i hst
    have hC := items_ok hy hst
    have hones := hC.ones
    have hlen := hC.len
    generalize hv : a.eval y = v at hC hones hlen
    split at h
    · rename_i hsz
      obtain ⟨inf, hinf, hs2⟩ := szOk_info hsz
      have hz : inf.size = v.cells.size := by rw [hs2, ← hlen]; simp
      split at h
      · rename_i n off p hdx
        rw [hdx] at hx
        generalize hxa : a.eval x = xa at hx
        cases hx with | ptr _ _ _ b hb hp =>
        split at h
        · rename_i cs hcs
          split at h
          · rename_i cs' hset
            simp only [Option.some.injEq] at h
            subst h
            obtain ⟨b', c, ty, e1, e2, e3⟩ := hH.obj n cs hcs
            rw [hb] at e1
            simp only [Option.some.injEq, Ent.obj.injEq] at e1
            subst e1
            obtain ⟨k1, k2⟩ := setD_ok hset (show pOk (.off off :: p) from hp) e3 hC
            simp only [pOff] at k1 k2
            have hle : off + pOff p + v.cells.toList.length ≤ c.size := by simpa using k1
            obtain ⟨c', m1, m2, m3, m4, m5, m6, m7⟩ := setCells_heap v.cells.toList w b (off + pOff p) c ty e2 hle
            have hth := blk_there e2 (off := off + pOff p) (n := v.cells.size) (by simpa using hle)
            refine ⟨I, _, _, exec_store ho hxa hv hinf hz hth.1 hth.2 hones, Ext.write hb rfl m3 m4 m5 m6 m7, ⟨fun _ _ _ h => h⟩, ?_, rfl⟩
            refine HR.write hH hb rfl m3 m4 ⟨b, c', ty, hb, m1, ?_⟩
            rw [m2]
            exact CR.keep (Same.write hH hb rfl m3) k2
          · cases h
        · cases h
      · rename_i n sz i p hdx
        rw [hdx] at hx
        generalize hxa : a.eval x = xa at hx
        cases hx with | rp _ _ _ _ b len cap hb hi hp =>
        split at h
        · rename_i E s xs hrow
          split at h
          · rename_i hsz'
            split at h
            · rename_i its hset
              split at h
              · rename_i yv hdec
                simp only [Option.some.injEq] at h
                subst h
                obtain ⟨g1, g2, cs, g3, g4, g5⟩ := row_cells hH hrow hb
                subst g1
                subst g2
                obtain ⟨q1, q2⟩ := arr_elem g3 hi
                obtain ⟨k1, k2⟩ := setD_ok hset hp (Sh.enc_ok (I := I) q1) hC
                obtain ⟨d1, d2, e1, e2, e3⟩ := Sh.dec_ok hdec k2
                cases e3
                rw [List.append_nil] at e1
                subst e1
                obtain ⟨r1, r2⟩ := K_set g3 hi e2
                have hql : ((cs.drop (i * s.sz)).take s.sz).length = s.sz := Sh.K_len q1
                have hmid : splice cs (i * s.sz) (splice ((cs.drop (i * s.sz)).take s.sz) (pOff p) v.cells.toList) = splice cs (i * s.sz + pOff p) v.cells.toList := splice_mid (by omega) q2
                rw [hmid] at r1
                obtain ⟨gl, gr⟩ := g4
                rcases gr with ⟨e0, _⟩ | ⟨g, cp, cur, e0, _, hh, hcap, hmx, hcs, htk⟩
                · cases e0
                · simp only [Value.slice.injEq, Option.some.injEq, Addr.mk.injEq, and_true, true_and] at e0
                  obtain ⟨rfl, rfl⟩ := e0
                  have hle0 : i * s.sz + pOff p + v.cells.toList.length ≤ cs.length := by omega
                  have hcl : cs.length ≤ cur.size := by rw [← htk]; simp; omega
                  have hle : i * s.sz + pOff p + v.cells.toList.length ≤ cur.size := by omega
                  obtain ⟨c', m1, m2, m3, m4, m5, m6, m7⟩ := setCells_heap v.cells.toList w b (i * s.sz + pOff p) cur E hh hle
                  have hth := blk_there hh (off := i * s.sz + pOff p) (n := v.cells.size) (by simpa using hle)
                  refine ⟨I, _, _, exec_store ho hxa hv hinf hz hth.1 hth.2 hones, Ext.write hb rfl m3 m4 m5 m6 m7, ⟨fun _ _ _ h => h⟩, ?_, rfl⟩
                  have hlset : (xs.set i yv).length = xs.length := List.length_set
                  refine HR.write hH hb rfl m3 m4 ⟨_, splice cs (i * s.sz + pOff p) v.cells.toList, hb, ⟨?_, .inr ⟨b, cap, c', ?_, Nat.zero_le _, m1, ?_, hmx, ?_, ?_⟩⟩, ?_⟩
                  · rw [splice_len hle0, gl, hlset]
                  · rw [hlset]
                  · rw [hlset]; exact hcap
                  · have := congrArg List.length m2
                    rw [splice_len (by simpa using hle)] at this
                    simpa [hcs] using this
                  · rw [hlset, m2, ← htk]
                    have hk : xs.length * s.sz = cs.length := gl.symm
                    rw [hk] at htk ⊢
                    conv => lhs; rw [← List.take_append_drop cs.length cur.toList, htk]
                    rw [htk, splice_right hle0, List.take_append_of_le_length (by rw [splice_len hle0]; exact Nat.le_refl _), List.take_of_length_le (by rw [splice_len hle0]; exact Nat.le_refl _)]
                  · rw [hlset]
                    exact Sh.K_keep (Same.write hH hb rfl m3).keeps r1
              · cases h
            · cases h
          · cases h
        · cases h
      · cases h
    · cases h
  · cases h
end
end Go.Proofs.Dk
