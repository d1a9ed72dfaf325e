/-
  The abstract machine: an evaluator of the program's functions, sound over the model. No condition beside those that each theorem states.
-/
import Derived.Test.YtilmhjojbolbeaaProg
import Derived.WalkKit
import Derived.WalkSpells
import Derived.WalkLawsBesides
import Derived.Deep.QuietTactic
import Derived.Deep.Draws
import Derived.BigQuiet
import Derived.Lib.Hide
import Derived.Maps.AppendAt
import Derived.Deep.OwnRows
import Derived.Maps.OwnIn
import Derived.OwnWalkIn
import Derived.RangeFuncFrom
import Derived.RangeFuncLeaves
import Derived.RangeFuncCalls
import Derived.RangeFuncBox
import Derived.Shelf.Abstract
import Derived.Shelf.RegionOpen
import Derived.TacticsInMore
import Derived.LoopNIn
import Derived.LoopIn
import Derived.StillTailTactics
import Derived.OrdersIn
import Derived.Deep.MidRow
set_option linter.all false

namespace Go.Proofs.Ytilmhjojbolbeaa.AM
open Go

abbrev Str := List UInt8
abbrev Ix := List Int

/-- columns: what stays in memory, element by element, along a path of places -/
inductive C where
  | i (k : IntKind) (f : Ix → Int)
  | b (f : Ix → Bool)
  | s (f : Ix → Str)
  | l (n : Ix → Int) (cs : List C)
  | p (cs : List C)
  | v (u : Value)

/-- values of a slot -/
inductive V where
  | i (k : IntKind) (n : Int)
  | b (x : Bool)
  | s (x : Str)
  | v (u : Value)
  | l (n : Int) (cs : List C) (full : Bool)
  | p (cs : List C)
  | sl (o : Nat) (lo n : Int) (sz : Nat) (full : Bool)
  | pt (o off : Nat)
  | pe (o : Nat) (j : Int) (sz c : Nat)
  | ag (cs : List V)
  | tu (vs : List V)
  | fn (f : Fn) (cap : List V)
  | fb (f : Fn) (bound : List V)
  | mp (o : Nat)
  | av (k : IntKind) (n : Nat) (f : Ix → Int)

/-- objects: what is owned -/
inductive O where
  | st (cs : List V) (e : Nat)
  | ar (n : Int) (cs : List C) (e : Nat)
  | ms (S : List Int)
  | rw (l : Nat) (rf : LoopState → Option Code → Obj) (st : LoopState) (pe : Option Code) (xs : List V) (vs : List Value)

abbrev Sto := List (Nat × O)
structure S where
  A : List (Nat × V)
  σ : Sto
  nx : Nat

def look {α : Type} (k : Nat) : List (Nat × α) → Option α
  | [] => none
  | (j, x) :: r => match Nat.beq j k with | true => some x | false => look k r
def upd {α : Type} (k : Nat) (v : α) : List (Nat × α) → List (Nat × α)
  | [] => []
  | (j, x) :: r => match Nat.beq j k with | true => (k, v) :: r | false => (j, x) :: upd k v r
def del {α : Type} (k : Nat) : List (Nat × α) → List (Nat × α)
  | [] => []
  | (j, x) :: r => match Nat.beq j k with | true => del k r | false => (j, x) :: del k r
def nth {α : Type} : List α → Nat → Option α
  | [], _ => none
  | x :: _, 0 => some x
  | _ :: r, n + 1 => nth r n
def setNth {α : Type} (v : α) : List α → Nat → List α
  | [], _ => []
  | _ :: r, 0 => v :: r
  | x :: r, n + 1 => x :: setNth v r n
def tk {α : Type} : Nat → List α → List α
  | 0, _ => []
  | _ + 1, [] => []
  | n + 1, x :: r => x :: tk n r
def dp {α : Type} : Nat → List α → List α
  | 0, l => l
  | _ + 1, [] => []
  | n + 1, _ :: r => dp n r
def put (d : Option Nat) (v : V) (s : S) : S := match d with | none => s | some d => { s with A := (d, v) :: s.A }

def need {α : Type} (o : Option α) (K : α → Prop) : Prop := match o with | some x => K x | none => False
def ob (x : Bool) (K : Prop) : Prop := x = true ∧ K
def hd (ix : Ix) : Int := match ix with | [] => 0 | j :: _ => j

/-! columns -/
mutual
def sh (j : Int) : C → C
  | .i k f => .i k (fun ix => f (j :: ix))
  | .b f => .b (fun ix => f (j :: ix))
  | .s f => .s (fun ix => f (j :: ix))
  | .l n cs => .l (fun ix => n (j :: ix)) (shs j cs)
  | .p cs => .p (shs j cs)
  | .v u => .v u
def shs (j : Int) : List C → List C
  | [] => []
  | c :: cs => sh j c :: shs j cs
end
-- from place lo on
mutual
def fr (lo : Int) : C → C
  | .i k f => .i k (fun ix => f ((hd ix + lo) :: ix.tail))
  | .b f => .b (fun ix => f ((hd ix + lo) :: ix.tail))
  | .s f => .s (fun ix => f ((hd ix + lo) :: ix.tail))
  | .l n cs => .l (fun ix => n ((hd ix + lo) :: ix.tail)) (frs lo cs)
  | .p cs => .p (frs lo cs)
  | .v u => .v u
def frs (lo : Int) : List C → List C
  | [] => []
  | c :: cs => fr lo c :: frs lo cs
end
-- the same at each place
mutual
def dr : C → C
  | .i k f => .i k (fun ix => f ix.tail)
  | .b f => .b (fun ix => f ix.tail)
  | .s f => .s (fun ix => f ix.tail)
  | .l n cs => .l (fun ix => n ix.tail) (drs cs)
  | .p cs => .p (drs cs)
  | .v u => .v u
def drs : List C → List C
  | [] => []
  | c :: cs => dr c :: drs cs
end
-- c at the places that t tells, at the others d
mutual
def mix (t : Ix → Bool) : C → C → Option C
  | .i k f, .i k' g => match (decide (k = k')) with | true => some (.i k (fun ix => bif t ix then f ix else g ix)) | false => none
  | .b f, .b g => some (.b (fun ix => bif t ix then f ix else g ix))
  | .s f, .s g => some (.s (fun ix => bif t ix then f ix else g ix))
  | .l n cs, .l m ds => match cs, ds with
      | [], ds => some (.l (fun ix => bif t ix then n ix else m ix) ds)
      | cs, [] => some (.l (fun ix => bif t ix then n ix else m ix) cs)
      | c :: cs, d :: ds => match mix t c d, mixs t cs ds with
        | some x, some xs => some (.l (fun ix => bif t ix then n ix else m ix) (x :: xs))
        | _, _ => none
  | _, _ => none
def mixs (t : Ix → Bool) : List C → List C → Option (List C)
  | [], [] => some []
  | c :: cs, d :: ds => match mix t c d, mixs t cs ds with | some x, some xs => some (x :: xs) | _, _ => none
  | _, _ => none
end
section
variable (H : (α : Type) → α → α)
/-- the value that a column holds at the empty path -/
def val : C → V
  | .i k f => .i k (H Int (f []))
  | .b f => .b (H Bool (f []))
  | .s f => .s (H Str (f []))
  | .l n cs => .l (H Int (n [])) cs false
  | .p cs => .p cs
  | .v u => .v u
def vals : List C → List V
  | [] => []
  | c :: cs => val H c :: vals cs
end
/-- a value as a column at the empty path -/
def toC : V → Option C
  | .i k n => some (.i k fun _ => n)
  | .b x => some (.b fun _ => x)
  | .s x => some (.s fun _ => x)
  | .v (.agg _) => none
  | .v (.tuple _) => none
  | .v u => some (.v u)
  | .l n cs _ => some (.l (fun _ => n) cs)
  | .p cs => some (.p cs)
  | _ => none
def toCs : List V → Option (List C)
  | [] => some []
  | x :: xs => match toC x, toCs xs with | some c, some cs => some (c :: cs) | _, _ => none

/-! what is lent -/
def bor (σ : Sto) : Nat → V → V
  | 0, x => x
  | n + 1, x => match x with
    | .sl o lo m sz full => match look o σ with
      | some (.ar _ cs _) => .l m (frs lo cs) full
      | _ => .sl o lo m sz full
    | .pt o off => match look o σ with
      | some (.st cs _) => match toCs (borL σ n (dp off cs)) with
        | some ds => .p ds
        | none => .pt o off
      | _ => .pt o off
    | .pe o j sz c => match look o σ with
      | some (.ar _ cs _) => .p (dp c (shs j cs))
      | _ => .pe o j sz c
    | .ag xs => .ag (borL σ n xs)
    | .tu xs => .tu (borL σ n xs)
    | .fn f xs => .fn f (borL σ n xs)
    | .fb f xs => .fb f (borL σ n xs)
    | x => x
where borL (σ : Sto) (n : Nat) : List V → List V
  | [] => []
  | x :: xs => bor σ n x :: borL σ n xs
end Go.Proofs.Ytilmhjojbolbeaa.AM

namespace Go.Proofs.Ytilmhjojbolbeaa.AM
open Go

/-! renaming of objects -/
section
variable (r : Nat → Nat)
mutual
def renV : V → V
  | .sl o lo n sz f => .sl (r o) lo n sz f
  | .pt o off => .pt (r o) off
  | .pe o j sz c => .pe (r o) j sz c
  | .mp o => .mp (r o)
  | .ag xs => .ag (renL xs)
  | .tu xs => .tu (renL xs)
  | .fn f xs => .fn f (renL xs)
  | .fb f xs => .fb f (renL xs)
  | .i k n => .i k n
  | .b x => .b x
  | .s x => .s x
  | .v u => .v u
  | .av k n f => .av k n f
  | .l n cs f => .l n cs f
  | .p cs => .p cs
def renL : List V → List V
  | [] => []
  | x :: xs => renV x :: renL xs
end
def renO : O → O
  | .st cs e => .st (renL r cs) e
  | .ar n cs e => .ar n cs e
  | .rw l rf st pe xs vs => .rw l rf st pe (renL r xs) vs
  | .ms S => .ms S
def renS : Sto → Sto
  | [] => []
  | (i, o) :: σ => (r i, renO r o) :: renS σ
end
-- the objects that a value names
mutual
def refs : V → List Nat
  | .sl o _ _ _ _ => [o]
  | .pt o _ => [o]
  | .pe o _ _ _ => [o]
  | .mp o => [o]
  | .ag xs => refsL xs
  | .tu xs => refsL xs
  | .fn _ xs => refsL xs
  | .fb _ xs => refsL xs
  | _ => []
def refsL : List V → List Nat
  | [] => []
  | x :: xs => refs x ++ refsL xs
end
def refsO : O → List Nat
  | .st cs _ => refsL cs
  | .ar _ _ _ => []
  | .rw _ _ _ _ xs _ => refsL xs
  | .ms _ => []
def refsS : Sto → List Nat
  | [] => []
  | (i, o) :: σ => i :: (refsO o ++ refsS σ)
def refsA : List (Nat × V) → List Nat
  | [] => []
  | (_, x) :: A => refs x ++ refsA A
def mem (k : Nat) : List Nat → Bool
  | [] => false
  | j :: r => match Nat.beq j k with | true => true | false => mem k r
/-- what values name, and what that names -/
def reach (σ : Sto) : Nat → List Nat → List Nat
  | 0, l => l
  | n + 1, l => l ++ reach σ n (go σ l)
where go (σ : Sto) : List Nat → List Nat
  | [] => []
  | i :: l => (match look i σ with | some o => refsO o | none => []) ++ go σ l
def minus : Sto → List Nat → Sto
  | [], _ => []
  | (i, o) :: σ, l => match mem i l with | true => minus σ l | false => (i, o) :: minus σ l
-- does a value hold anything of memory that stays
mutual
def immV : V → Bool
  | .l _ _ _ => true
  | .p _ => true
  | .ag xs => immL xs
  | .tu xs => immL xs
  | .fn _ xs => immL xs
  | .fb _ xs => immL xs
  | _ => false
def immL : List V → Bool
  | [] => false
  | x :: xs => match immV x with | true => true | false => immL xs
end
def flatC : C → Bool
  | .l _ _ => false
  | .p _ => false
  | _ => true
def flatCs : List C → Bool
  | [] => true
  | c :: cs => match flatC c with | true => flatCs cs | false => false
def immS : Sto → Bool
  | [] => false
  | (_, .st cs _) :: σ => match immL cs with | true => true | false => immS σ
  | (_, .ar _ cs _) :: σ => match flatCs cs with | true => immS σ | false => true
  | (_, .rw _ _ _ _ xs _) :: σ => match immL xs with | true => true | false => immS σ
  | (_, .ms _) :: σ => immS σ
def borA (σ : Sto) : List (Nat × V) → List (Nat × V)
  | [] => []
  | (t, x) :: A => (t, bor σ 4 x) :: borA σ A
def borO (σ : Sto) : O → O
  | .st cs e => .st (bor.borL σ 4 cs) e
  | .ar n cs e => .ar n cs e
  | .rw l rf st pe xs vs => .rw l rf st pe (bor.borL σ 4 xs) vs
  | .ms S => .ms S
def borS (σ : Sto) : Sto → Sto
  | [] => []
  | (i, o) :: τ => (i, borO σ o) :: borS σ τ
def only : Sto → List Nat → Sto
  | [], _ => []
  | (i, o) :: σ, l => match mem i l with | true => (i, o) :: only σ l | false => only σ l
/-- these objects stay from here on as they are -/
def frz (l : List Nat) (s : S) : S :=
  let τ := only s.σ l
  { s with A := borA τ s.A, σ := borS τ (minus s.σ l) }

-- when two states say the same
mutual
def ceq : C → C → Prop
  | .i k f, .i k' g => k = k' ∧ f = g
  | .b f, .b g => f = g
  | .s f, .s g => f = g
  | .l n cs, .l m ds => n = m ∧ ceqs cs ds
  | .p cs, .p ds => ceqs cs ds
  | .v u, .v v => u = v
  | _, _ => False
def ceqs : List C → List C → Prop
  | [], [] => True
  | c :: cs, d :: ds => ceq c d ∧ ceqs cs ds
  | _, _ => False
end
def isRef : V → Bool
  | .sl _ _ _ _ _ => true
  | .pt _ _ => true
  | .pe _ _ _ _ => true
  | .mp _ => true
  | _ => false
/-- the object j of the target is the object o -/
def nam (ρ : List (Nat × Option Nat)) (j : Nat) (o : Option Nat) : Prop :=
  match look j ρ with
  | some p => match p, o with
    | some a, some b => match Nat.beq a b with | true => True | false => False
    | none, none => True
    | _, _ => False
  | none => False
def feq (a b : Bool) : Prop := match a, b with | true, true => True | false, false => True | true, false => True | false, true => False
-- the value x may be taken for the target y
mutual
def ve (ρ : List (Nat × Option Nat)) : V → V → Prop
  | .i k n, .i k' n' => k = k' ∧ n = n'
  | .b x, .b x' => x = x'
  | .s x, .s x' => x = x'
  | .v u, .v u' => u = u'
  | .l n cs f, .l n' cs' f' => n = n' ∧ feq f f' ∧ (n = 0 ∨ ceqs cs cs')
  | .p cs, .p cs' => ceqs cs cs'
  | .sl o lo n sz f, .sl o' lo' n' sz' f' => lo = lo' ∧ n = n' ∧ sz = sz' ∧ f = f' ∧ nam ρ o' (some o)
  | .l n _ f, .sl o' lo' n' _ f' => n = 0 ∧ f = true ∧ lo' = 0 ∧ n' = 0 ∧ f' = false ∧ nam ρ o' none
  | .pt o off, .pt o' off' => off = off' ∧ nam ρ o' (some o)
  | .pe o j sz c, .pe o' j' sz' c' => j = j' ∧ sz = sz' ∧ c = c' ∧ nam ρ o' (some o)
  | .mp o, .mp o' => nam ρ o' (some o)
  | .av k n f, .av k' n' f' => (k = k' ∧ n = n') ∧ f = f'
  | .ag xs, .ag ys => ves ρ xs ys
  | .tu xs, .tu ys => ves ρ xs ys
  | .fn f xs, .fn f' ys => f = f' ∧ ves ρ xs ys
  | .fb f xs, .fb f' ys => f = f' ∧ ves ρ xs ys
  | _, _ => False
def ves (ρ : List (Nat × Option Nat)) : List V → List V → Prop
  | [], [] => True
  | x :: xs, y :: ys => ve ρ x y ∧ ves ρ xs ys
  | _, _ => False
end
def oe (ρ : List (Nat × Option Nat)) : O → O → Prop
  | .st xs e, .st ys e' => e = e' ∧ ves ρ xs ys
  | .ar n cs e, .ar n' cs' e' => e = e' ∧ n = n' ∧ ceqs cs cs'
  | .rw l rf st pe xs vs, .rw l' rf' st' pe' ys vs' => (l = l' ∧ rf = rf') ∧ (st = st' ∧ pe = pe') ∧ vs = vs' ∧ ves ρ xs ys
  | .ms S, .ms S' => S = S'
  | _, _ => False
/-- the slots of the target -/
def ae (ρ : List (Nat × Option Nat)) (A : List (Nat × V)) : List (Nat × V) → Prop
  | [] => True
  | (t, y) :: B => (match look t A with | some x => ve ρ x y | none => False) ∧ ae ρ A B
/-- the objects of the target -/
def se (ρ : List (Nat × Option Nat)) (σ : Sto) : Sto → Prop
  | [] => True
  | (j, o) :: τ => (match look j ρ with
      | some (some i) => (match look i σ with | some o' => oe ρ o' o | none => False)
      | some none => (match o with | .ar n _ _ => n = 0 | _ => False)
      | none => False) ∧ se ρ σ τ
/-- what the target's names may be: a guess -/
def gv : V → V → List (Nat × Option Nat) → List (Nat × Option Nat)
  | .sl o _ _ _ _, .sl o' _ _ _ _, ρ => (match look o' ρ with | none => (o', some o) :: ρ | some _ => ρ)
  | .l _ _ _, .sl o' _ _ _ _, ρ => (match look o' ρ with | none => (o', none) :: ρ | some _ => ρ)
  | .pt o _, .pt o' _, ρ => (match look o' ρ with | none => (o', some o) :: ρ | some _ => ρ)
  | .pe o _ _ _, .pe o' _ _ _, ρ => (match look o' ρ with | none => (o', some o) :: ρ | some _ => ρ)
  | .mp o, .mp o', ρ => (match look o' ρ with | none => (o', some o) :: ρ | some _ => ρ)
  | .ag xs, .ag ys, ρ => go xs ys ρ
  | .tu xs, .tu ys, ρ => go xs ys ρ
  | .fn _ xs, .fn _ ys, ρ => go xs ys ρ
  | .fb _ xs, .fb _ ys, ρ => go xs ys ρ
  | _, _, ρ => ρ
where go : List V → List V → List (Nat × Option Nat) → List (Nat × Option Nat)
  | x :: xs, y :: ys, ρ => go xs ys (gv x y ρ)
  | _, _, ρ => ρ
def ga (A : List (Nat × V)) : List (Nat × V) → List (Nat × Option Nat) → List (Nat × Option Nat)
  | [], ρ => ρ
  | (t, y) :: B, ρ => ga A B (match look t A with | some x => gv x y ρ | none => ρ)
def gs (σ : Sto) : Sto → List (Nat × Option Nat) → List (Nat × Option Nat)
  | [], ρ => ρ
  | (j, o) :: τ, ρ =>
    let ρ := (match look j ρ with | some _ => ρ | none => (j, some j) :: ρ)
    gs σ τ (match look j ρ with
      | some (some i) => (match look i σ, o with | some (.st xs _), .st ys _ => gv.go xs ys ρ | some (.rw _ _ _ _ xs _), .rw _ _ _ _ ys _ => gv.go xs ys ρ | _, _ => ρ)
      | _ => ρ)
def img : List (Nat × Option Nat) → List Nat
  | [] => []
  | (_, some i) :: ρ => i :: img ρ
  | (_, none) :: ρ => img ρ
def nodup : List Nat → Bool
  | [] => true
  | i :: l => match mem i l with | true => false | false => nodup l
def dom : Sto → List Nat
  | [] => []
  | (i, _) :: σ => i :: dom σ
def diff : List Nat → List Nat → List Nat
  | [], _ => []
  | i :: l, m => match mem i m with | true => diff l m | false => i :: diff l m
/-- what a frame was handed keeps its name -/
def pins (ρ : List (Nat × Option Nat)) : Sto → Bool
  | [] => true
  | (j, _) :: τ => match Nat.blt j 100 with
    | true => (match look j ρ with
      | some (some i) => (match Nat.beq i j with | true => pins ρ τ | false => false)
      | _ => false)
    | false => pins ρ τ
/-- the state s may be taken for the target t -/
def sub (s t : S) : Prop :=
  let ρ := gs s.σ t.σ (ga s.A t.A [])
  let s' := frz (diff (dom s.σ) (img ρ)) s
  (Nat.ble 100 t.nx = true ∧ pins ρ t.σ = true) ∧ nodup (img ρ) = true ∧ ae ρ s'.A t.A ∧ se ρ s'.σ t.σ
end Go.Proofs.Ytilmhjojbolbeaa.AM

namespace Go.Proofs.Ytilmhjojbolbeaa.AM
open Go

/-- what of the types is needed -/
structure TS where
  id : Nat
  ag : Bool := false
  sz : Nat := 1
  z : List V := []
  el : Nat := 0
  esz : Nat := 1
  eb : Nat := 8
  fs : List (Nat × Bool × Nat) := []
  arr : Option (Nat × IntKind) := none
  k : Option IntKind := none
  nk : Nat := 0
  eqk : List Nat := []
  mb : Bool := false

/-- a call that is described: of these arguments and objects -/
abbrev YSp := List V → Sto → (V → Sto → Prop) → Prop
abbrev Spec := FuncId → YSp

section
variable (H : (α : Type) → α → α) (TT : Nat → TS) (Tri : Spec)

def ty (t : Nat) (K : TS → Prop) : Prop := match Nat.beq (TT t).id t with | true => K (TT t) | false => False
def ofV : Value → V
  | .int k n => .i k n
  | .bool b => .b b
  | .string s => .s s.data.toList
  | .slice none 0 0 => .l 0 [] true
  | v => .v v
def ev (s : S) : Operand → Option V
  | .tmp t => look t s.A
  | .const v => some (ofV v)
  | .func f => some (.fn (.func f) [])
  | .global _ => none
def evs (s : S) : List Operand → Option (List V)
  | [] => some []
  | x :: xs => match ev s x, evs s xs with | some v, some vs => some (v :: vs) | _, _ => none

def arith (op : BinOp) (k : IntKind) (m n : Int) (K : V → Prop) : Prop :=
  match op with
  | .add => K (.i k (H Int (k.wrap (m + n))))
  | .sub => K (.i k (H Int (k.wrap (m - n))))
  | .mul => K (.i k (H Int (k.wrap (m * n))))
  | .quo => ob (H Bool (decide (n ≠ 0))) (K (.i k (H Int (k.wrap (m.tdiv n)))))
  | .rem => ob (H Bool (decide (n ≠ 0))) (K (.i k (H Int (m.tmod n))))
  | .and => K (.i k (H Int (k.wrap (BitVec.ofInt k.bits m &&& BitVec.ofInt k.bits n).toNat)))
  | .or => K (.i k (H Int (k.wrap (BitVec.ofInt k.bits m ||| BitVec.ofInt k.bits n).toNat)))
  | .xor => K (.i k (H Int (k.wrap (BitVec.ofInt k.bits m ^^^ BitVec.ofInt k.bits n).toNat)))
  | .eql => K (.b (H Bool (decide (m = n))))
  | .neq => K (.b (H Bool (decide (m ≠ n))))
  | .lss => K (.b (H Bool (decide (m < n))))
  | .leq => K (.b (H Bool (decide (m ≤ n))))
  | .gtr => K (.b (H Bool (decide (m > n))))
  | .geq => K (.b (H Bool (decide (m ≥ n))))
  | _ => False
/-- is a value the nil beside it -/
def nilEq (σ : Sto) (nk : Nat) (cy : Bool) (x y : V) (K : Bool → Prop) : Prop :=
  match nk with
  | 1 => match x, y with
    | .v (.pointer none), .v (.pointer none) => K true
    | .p _, .v (.pointer none) => K false
    | .pt _ _, .v (.pointer none) => K false
    | .pe _ _ _ _, .v (.pointer none) => K false
    | _, _ => False
  | 2 => match cy with
    | true => match x, y with
      | .l n _ _, .l 0 [] true => ∀ b : Bool, (b = true → n = 0) → K b
      | .sl o _ n _ _, .l 0 [] true => match look o σ with
        | some (.ar N _ _) => ∀ b : Bool, (b = true → n = 0 ∧ N = 0) → K b
        | _ => ∀ b : Bool, (b = true → n = 0) → K b
      | .v (.slice (some _) _ _), .l 0 [] true => K false
      | _, _ => False
    | false => False
  | 3 => match x, y with
    | .v .nilFunc, .v .nilFunc => K true
    | .fn _ _, .v .nilFunc => K false
    | _, _ => False
  | 6 => match x, y with
    | .b a, .b b => K (H Bool (decide (a = b)))
    | _, _ => False
  | _ => False
def isC : Operand → Bool
  | .const _ => true
  | _ => false
def notB (nk : Nat) (b : Bool) (K : V → Prop) : Prop := match nk with
  | 6 => K (.b (H Bool (!b)))
  | _ => match b with
    | true => K (.b false)
    | false => K (.b true)
/-- are the cells of two structs the same -/
def eqc : List Nat → List V → List V → Option Bool
  | [], [], [] => some true
  | 10 :: ks, .i k m :: xs, .i k' n :: ys => match decide (k = k'), eqc ks xs ys with
    | true, some b => some (decide (m = n) && b)
    | _, _ => none
  | 9 :: ks, .s a :: xs, .s b :: ys => match eqc ks xs ys with
    | some c => some (decide (a = b) && c)
    | _ => none
  | 6 :: ks, .b a :: xs, .b b :: ys => match eqc ks xs ys with
    | some c => some (decide (a = b) && c)
    | _ => none
  | _, _, _ => none
def vbin (σ : Sto) (op : BinOp) (t : Nat) (cy : Bool) (x y : V) (K : V → Prop) : Prop :=
  match x, y with
  | .i k m, .i k' n => match op with
    | .shl => ob (H Bool (decide (0 ≤ n))) (K (.i k (H Int (k.wrap (m * 2 ^ (min n.toNat k.bits))))))
    | .shr => ob (H Bool (decide (0 ≤ n))) (K (.i k (H Int (m.fdiv (2 ^ (min n.toNat k.bits))))))
    | op => match decide (k = k') with | true => arith H op k m n K | false => False
  | .s a, .s b => match op with
    | .add => ob (H Bool (decide (a.length + b.length ≤ 9223372036854775807))) (K (.s (H Str (a ++ b))))
    | .eql => K (.b (H Bool (decide (a = b))))
    | .neq => K (.b (H Bool (decide (a ≠ b))))
    | _ => False
  | .ag xs, .ag ys => ty TT t fun T => match T.eqk with
    | [] => False
    | _ => match op with
      | .eql => need (eqc T.eqk xs ys) fun b => K (.b (H Bool b))
      | .neq => need (eqc T.eqk xs ys) fun b => K (.b (H Bool (!b)))
      | _ => False
  | x, y => match op with
    | .eql => ty TT t fun T => nilEq H σ T.nk cy x y fun b => K (.b b)
    | .neq => ty TT t fun T => nilEq H σ T.nk cy x y fun b => notB H T.nk b K
    | _ => False

def asI : V → Option Int
  | .i _ n => some n
  | _ => none
def asL : V → Option (Int × List C)
  | .l n cs _ => some (n, cs)
  | _ => none
/-- a value in memory as the cells it takes -/
def cells : V → List V
  | .ag xs => xs
  | x => [x]
def leaf : V → Bool
  | .ag _ => false
  | .tu _ => false
  | .av _ _ _ => false
  | .v (.agg _) => false
  | .v (.tuple _) => false
  | _ => true
def leaves : List V → Bool
  | [] => true
  | x :: xs => match leaf x with | true => leaves xs | false => false
/-- of cells the value of a type -/
def asT (T : TS) (xs : List V) (K : V → Prop) : Prop :=
  match T.ag with
  | true => match Nat.ble T.sz xs.length with | true => K (.ag (tk T.sz xs)) | false => False
  | false => match xs with | x :: _ => K x | [] => False
def vload (T : TS) (σ : Sto) (x : V) (K : V → Prop) : Prop :=
  match x with
  | .p cs => asT T (vals H cs) K
  | .pt o off => match look o σ with
    | some (.st xs _) => asT T (dp off xs) K
    | some (.ar m [.i k f] _) => (match T.arr with
      | some (n, k') => match Nat.beq off 0, decide (k = k') with
        | true, true => m = (n : Int) ∧ K (.av k n f)
        | _, _ => False
      | none => False)
    | _ => False
  | .pe o j _ c => match look o σ with
    | some (.ar _ cs _) => asT T (dp c (vals H (shs j cs))) K
    | _ => False
  | _ => False
def over (l : List V) (off : Nat) (xs : List V) : Option (List V) :=
  match off, xs, l with
  | 0, [], l => some l
  | 0, x :: xs, _ :: l => (over l 0 xs).map (x :: ·)
  | n + 1, xs, y :: l => (over l n xs).map (y :: ·)
  | _, _, [] => none
def overC (t : Ix → Bool) (l : List C) (off : Nat) (xs : List C) : Option (List C) :=
  match off, xs, l with
  | 0, [], l => some l
  | 0, x :: xs, y :: l => match mix t (dr x) y, overC t l 0 xs with | some z, some r => some (z :: r) | _, _ => none
  | n + 1, xs, y :: l => (overC t l n xs).map (y :: ·)
  | _, _, [] => none
def vstore (s : S) (x v : V) (K : S → Prop) : Prop :=
  match leaves (cells v) with
  | false => False
  | true => match x with
  | .pt o off => match look o s.σ with
    | some (.st xs e) => need (over xs off (cells v)) fun ys => K { s with σ := upd o (.st ys e) s.σ }
    | _ => False
  | .pe o j _ c => match look o s.σ with
    | some (.ar n cs e) => need (toCs (cells v)) fun ds => need (overC (fun ix => decide (hd ix = j)) cs c ds) fun cs' =>
        K { s with σ := upd o (.ar n cs' e) s.σ }
    | _ => False
  | _ => False

/-- a store of an array -/
def vstoreA (s : S) (T : TS) (x : V) (k : IntKind) (n : Nat) (f : Ix → Int) (K : S → Prop) : Prop :=
  match T.arr with
  | some (n', k') => (match x with
    | .pt o off => match look o s.σ with
      | some (.ar m [.i k'' _] e) => match Nat.beq off 0, decide (k = k'), decide (k'' = k'), Nat.beq n n' with
        | true, true, true, true => m = (n : Int) ∧ K { s with σ := upd o (.ar m [.i k f] e) s.σ }
        | _, _, _, _ => False
      | _ => False
    | _ => False)
  | none => False
/-- a name that is not in use -/
def freeN : Nat → Nat → List Nat → Nat
  | 0, n, _ => n
  | k + 1, n, l => match mem n l with | true => freeN k (n + 1) l | false => n
def bmp (s : S) : S := { s with nx := freeN 200 s.nx (refsA s.A ++ refsS s.σ) }
/-- a new object -/
def fresh (s : S) (o : O) (K : Nat → S → Prop) : Prop :=
  match mem s.nx ((refsA s.A ++ refsS s.σ) ++ refsO o) with
  | true => False
  | false => K s.nx { s with σ := (s.nx, o) :: s.σ, nx := s.nx + 1 }
def places (fs : List (Nat × Bool × Nat)) (z : List V) : List (Nat × V) → Option (List V)
  | [] => some z
  | (i, x) :: r => match nth fs i with
    | some (off, _, sz) => match leaves (cells x), Nat.beq (cells x).length sz with
      | true, true => match over z off (cells x) with | some z => places fs z r | none => none
      | _, _ => none
    | none => none
def row (z : List C) : List (Nat × V) → Option (List C)
  | [] => some z
  | (i, x) :: r => match leaves (cells x), toCs (cells x) with
    | true, some ds => match mixs (fun ix => decide (hd ix = (i : Int))) (drs ds) z with
      | some z => row z r
      | none => none
    | _, _ => none
def partsOk (n sz : Nat) : List (Nat × V) → Bool
  | [] => true
  | (i, x) :: r => match Nat.blt i n, Nat.beq (cells x).length sz with | true, true => partsOk n sz r | _, _ => false
def evps (s : S) : List (Nat × Operand) → Option (List (Nat × V))
  | [] => some []
  | (i, x) :: xs => match ev s x, evps s xs with | some v, some vs => some ((i, v) :: vs) | _, _ => none
def o0 : Option Int → Int
  | some l => l
  | none => 0
def vslice (x : V) (lo hi mx : Option Int) (K : V → Prop) : Prop :=
  let l := o0 lo
  match x with
  | .s a => match mx with
    | some _ => False
    | none => match hi with
      | some h => ob (H Bool (decide (0 ≤ l ∧ l ≤ h ∧ h ≤ (a.length : Int)))) (K (.s (H Str ((a.take h.toNat).drop l.toNat))))
      | none => ob (H Bool (decide (0 ≤ l ∧ l ≤ (a.length : Int)))) (K (.s (H Str (a.drop l.toNat))))
  | .l n cs full => match mx with
      | some m => match hi with
        | some h => ob (H Bool (decide (0 ≤ l ∧ l ≤ h ∧ h ≤ n ∧ m = h))) (K (.l (H Int (h - l)) (frs l cs) true)) ∨
          ob (H Bool (decide (0 ≤ l ∧ l = h ∧ h < n ∧ m = h))) (∀ a : Addr, K (.v (.slice (some a) 0 0)))
        | none => False
      | none => match hi with
        | some h => ob (H Bool (decide (0 ≤ l ∧ l ≤ h ∧ h ≤ n))) (K (.l (H Int (h - l)) (frs l cs) false))
        | none => ob (H Bool (decide (0 ≤ l ∧ l ≤ n))) (K (.l (H Int (n - l)) (frs l cs) full))
  | .sl o l0 n sz full => match mx with
      | some m => match hi with
        | some h => ob (H Bool (decide (0 ≤ l ∧ l ≤ h ∧ h ≤ n ∧ m = h))) (K (.sl o (H Int (l0 + l)) (H Int (h - l)) sz true))
        | none => False
      | none => match hi with
        | some h => match full with
          | false => ob (H Bool (decide (0 ≤ l ∧ l ≤ h ∧ h ≤ n))) (K (.sl o (H Int (l0 + l)) (H Int (h - l)) sz false))
          | true => ob (H Bool (decide (0 ≤ l ∧ l ≤ h ∧ h = n))) (K (.sl o (H Int (l0 + l)) (H Int (h - l)) sz true))
        | none => ob (H Bool (decide (0 ≤ l ∧ l ≤ n))) (K (.sl o (H Int (l0 + l)) (H Int (n - l)) sz full))
  | _ => False
def optI (s : S) : Option Operand → Option (Option Int)
  | none => some none
  | some x => match ev s x with | some (.i _ n) => some (some n) | _ => none
/-- the columns of a, n places long, and of b behind them -/
def catC (n : Int) (a b : List C) : Option (List C) :=
  match a, b with
  | [], b => some b
  | a, [] => some a
  | a, b => mixs (fun ix => decide (hd ix < n)) a (frs (-1 * n) b)
/-- as many columns as an element has cells -/
def colOk (es : List C) (T : TS) (n m : Int) (K : Prop) : Prop :=
  match es with
  | [] => ob (H Bool (decide (n = 0 ∧ m = 0))) K
  | _ => Nat.beq es.length T.esz = true ∧ K
def vappend (s : S) (T : TS) (x y : V) (K : V → S → Prop) : Prop :=
  match bor s.σ 1 y with
  | .l m ds _ => match x with
    | .l n cs true => need (catC n cs ds) fun es => colOk H es T n m
        (ob (H Bool (decide (n = 0 ∨ m ≠ 0))) (ob (H Bool (decide ((n + m) * T.eb ≤ 140737488355328)))
          (fresh s (.ar (H Int (n + m)) es T.el) fun j s => K (.sl j 0 (H Int (n + m)) T.esz false) s)))
    | .sl o lo n sz true => match look o s.σ with
      | some (.ar _ cs _) => need (catC n (frs lo cs) ds) fun es => colOk H es T n m
        (ob (H Bool (decide (m ≠ 0))) (ob (H Bool (decide ((n + m) * T.eb ≤ 140737488355328)))
          (Nat.beq sz T.esz = true ∧ fresh s (.ar (H Int (n + m)) es T.el) fun j s => K (.sl j 0 (H Int (n + m)) T.esz false) s)))
      | _ => False
    | .sl o lo n sz false => match look o s.σ, mem o (refs y) with
      | some (.ar _ cs e), false => need (catC n cs ds) fun es => colOk H es T n m
        (ob (H Bool (decide (lo = 0))) (ob (H Bool (decide ((n + m) * T.eb ≤ 140737488355328)))
          (Nat.beq sz T.esz = true ∧ Nat.beq e T.el = true ∧ fresh { s with σ := del o s.σ } (.ar (H Int (n + m)) es T.el) fun j s => K (.sl j 0 (H Int (n + m)) T.esz false) s)))
      | _, _ => False
    | _ => False
  | _ => False

/-- names of objects: those handed over come first -/
def posOf (l : List Nat) (o : Nat) : Nat :=
  match l with
  | [] => o
  | i :: r => match Nat.beq i o with | true => 0 | false => posOf r o + 1
def backOf (l : List Nat) (nx : Nat) (q : Nat) : Nat := match nth l q with | some i => i | none => q + nx
def handed (σ : Sto) (F : Sto) (l : List Nat) : List Nat → Sto
  | [] => []
  | i :: r => match look i σ with | some o => (posOf l i, renO (posOf l) (borO F o)) :: handed σ F l r | none => handed σ F l r
def nilL : List Nat → Bool
  | [] => true
  | _ :: _ => false
/-- new names are new -/
def news (k nx : Nat) (old : List Nat) : List Nat → Bool
  | [] => true
  | q :: l => match Nat.blt q k with
    | true => news k nx old l
    | false => match mem (q + nx) old with | true => false | false => news k nx old l
/-- what was lent stays, if what is handed back may look at it -/
def after (lent : List Nat) (b : Bool) (s : S) : S := match lent, b with | _ :: _, true => frz lent s | _, _ => s
def vcall (Sp : YSp) (s : S) (xs : List V) (K : V → S → Prop) : Prop :=
  ∃ ids : List Nat, ((nodup ids = true ∧ Nat.blt ids.length 100 = true) ∧ nilL (diff ids (dom s.σ)) = true) ∧
    let lent := diff (reach s.σ 3 (refsL xs ++ refsS (only s.σ ids))) ids
    let F := only s.σ lent
    ∃ xs' σ0, xs' = renL (posOf ids) (bor.borL F 4 xs) ∧ σ0 = handed s.σ F ids ids ∧ ∃ R, Sp xs' σ0 R ∧ ∀ r σ', R r σ' →
      let t := after lent (immV r || immS σ') s
      news ids.length s.nx (refsA t.A ++ refsS t.σ) (dom σ') = true ∧
      K (renV (backOf ids s.nx) r) { t with σ := renS (backOf ids s.nx) σ' ++ minus t.σ ids, nx := s.nx + 20 }

def isCopy : Callee → Bool
  | .builtin .copy => true
  | _ => false
/-- as many elements as both have are copied -/
def cnt2 (k n : Int) : Int := if k < n then k else n
def vcopy (s : S) (T : TS) (x y : V) (K : V → S → Prop) : Prop :=
  match x with
  | .sl o lo n sz _ => match look o s.σ with
    | some (.ar m cs e) =>
      let go (k : Int) (ds : List C) : Prop := need (mixs (fun ix => decide (lo ≤ hd ix ∧ hd ix < H Int (lo + cnt2 k n))) (frs (H Int (-lo)) ds) cs) fun cs' =>
        (Nat.beq sz T.esz = true ∧ Nat.beq ds.length T.esz = true) ∧ K (.i .i64 (H Int (cnt2 k n))) { s with σ := upd o (.ar m cs' e) s.σ }
      match bor s.σ 1 y with
      | .l k ds _ => go k ds
      | .s a => go (H Int (a.length : Int)) [.i .u8 fun ix => ((a.getD (hd ix).toNat 0).toNat : Int)]
      | _ => False
    | _ => False
  | _ => False
/-- numbers as bytes -/
def bytesOf (n : Int) (f : Ix → Int) : Str := (List.range n.toNat).map fun (i : Nat) => UInt8.ofNat (f [(i : Int)]).toNat
/-- operations that only look -/
def softO : Op → Bool
  | .move _ => true
  | .pick _ _ _ => true
  | .build _ _ => true
  | .load _ _ => true
  | .nilCheck _ => true
  | .binOp _ _ _ _ _ => true
  | .unOp _ _ _ => true
  | .convert _ t _ => match (TT t).nk with | 2 => false | _ => true
  | .makeFunc _ _ _ => true
  | .slice _ _ _ _ _ => true
  | .fieldAddr _ _ _ => true
  | .field _ _ _ => true
  | .indexAddr _ _ _ => true
  | .index _ _ _ => true
  | .extract _ _ => true
  | .call c => match c.callee with
    | .builtin .len => true
    | .builtin .min => true
    | .builtin .max => true
    | _ => false
  | _ => false
/-- an operation -/
def vop (o : Oper) (s : S) (K : V → S → Prop) : Prop :=
  match o.op with
  | .move x => need (ev s x) fun v => K v s
  | .assign x => need (ev s x) fun v => K v s
  | .pick c a b => need (ev s c) fun c => match c with
    | .b x => match x with
      | true => need (ev s a) fun v => K v s
      | false => need (ev s b) fun v => K v s
    | _ => False
  | .alloc t => ty TT t fun T => match T.arr with
    | some (n, k) => fresh (bmp s) (.ar (n : Int) [.i k fun _ => 0] t) fun j s => K (.pt j 0) s
    | none => fresh (bmp s) (.st T.z t) fun j s => K (.pt j 0) s
  | .box t x => need (ev s x) fun v => match v with
    | .av k n f => ty TT t fun T => (match T.arr with
      | some (n', k') => match decide (k = k'), Nat.beq n n' with
        | true, true => fresh (bmp s) (.ar (n : Int) [.i k f] t) fun j s => K (.pt j 0) s
        | _, _ => False
      | none => False)
    | v => match leaves (cells v) with
      | true => fresh (bmp s) (.st (cells v) t) fun j s => K (.pt j 0) s
      | false => False
  | .build t ps => ty TT t fun T => need (evps s ps.toList) fun xs => match T.arr with
    | some _ => False
    | none => match T.ag with
      | true => need (places T.fs T.z xs) fun cs => K (.ag cs) s
      | false => False
  | .buildSlice t n ps => need (evps s ps.toList) fun xs => match n, xs with
    | 1, [(0, x)] => ty TT t fun T => match T.nk, leaves (cells x), Nat.beq (cells x).length T.esz, decide (T.esz ≤ 16777216) with
      | 2, true, true, true => need (toCs (cells x)) fun ds => K (.l 1 (drs ds) true) s
      | _, _, _, _ => False
    | 0, [] => ty TT t fun T => match T.nk with | 2 => K (.l 0 [] true) s | _ => False
    | n, xs => ty TT t fun T => ty TT T.el fun E => match T.nk, E.arr, decide (n * T.esz ≤ 16777216) && Nat.blt 0 n && partsOk n T.esz xs with
      | 2, none, true => need (toCs E.z) fun z => need (row (drs z) xs) fun cs => K (.l (n : Int) cs true) s
      | _, _, _ => False
  | .load t x => need (ev s x) fun v => ty TT t fun T => vload H T s.σ v fun r => K r s
  | .store t x y => need (ev s x) fun p => need (ev s y) fun v => ty TT t fun T => match v with
    | .av k n f => vstoreA s T p k n f fun s => K (.v undef) s
    | v => match Nat.beq (cells v).length T.sz with
      | true => vstore s p v fun s => K (.v undef) s
      | false => False
  | .nilCheck x => need (ev s x) fun v => match v with
    | .p cs => K (.p cs) s
    | .pt i off => K (.pt i off) s
    | .pe i j sz c => K (.pe i j sz c) s
    | .fn f cs => K (.fn f cs) s
    | _ => False
  | .binOp op t x y _ => need (ev s x) fun a => need (ev s y) fun b => vbin H TT s.σ op t (isC y) a b fun r => K r s
  | .unOp op _ x => need (ev s x) fun a => match op, a with
    | .not, .b x => match x with
      | true => K (.b false) s
      | false => K (.b true) s
    | .neg, .i k n => K (.i k (H Int (k.wrap (0 - n)))) s
    | _, _ => False
  | .convert u t x => need (ev s x) fun a => ty TT u fun U => ty TT t fun T => match T.nk with
    | 10 => (match a with
      | .i _ n => need T.k fun k => K (.i k (H Int (k.wrap n))) s
      | _ => False)
    | 9 => (match a with
      | .s x => K (.s x) s
      | a => match U.nk with
        | 2 => ty TT U.el fun E => match E.nk, E.k with
          | 10, some .u8 => (match bor s.σ 1 a with
            | .l n [.i .u8 f] _ => K (.s (H Str (bytesOf n f))) s
            | .v (.slice (some _) 0 0) => K (.s []) s
            | _ => False)
          | _, _ => False
        | _ => False)
    | 2 => (match a with
      | .s x => ty TT T.el fun E => match E.nk, E.k with
        | 10, some .u8 => K (.l (H Int x.length) [.i .u8 fun ix => ((x.getD (hd ix).toNat 0).toNat : Int)] false) s
        | _, _ => False
      | _ => False)
    | _ => False
  | .makeFunc f fi cs => match fi.toList with
    | [] => need (evs s cs.toList) fun vs => K (.fn f vs) s
    | _ => match cs.toList with
      | [] => need (evs s fi.toList) fun vs => K (.fb f vs) s
      | _ => False
  | .makeSlice t x y => need (ev s x) fun a => need (ev s y) fun b => match a, b with
    | .i _ m, .i _ n => ty TT t fun T => ty TT T.el fun E => match T.nk, E.arr with
      | 2, none => need (toCs E.z) fun z => ob (H Bool (decide (0 ≤ m ∧ m = n ∧ n * T.eb ≤ 140737488355328)))
        (fresh (bmp s) (.ar m (drs z) T.el) fun j s => K (.sl j 0 m T.esz false) s)
      | _, _ => False
    | _, _ => False
  | .slice t x lo hi mx => need (ev s x) fun v => need (optI s lo) fun l => need (optI s hi) fun h => need (optI s mx) fun m => ty TT t fun T => match T.nk with
    | 9 => (match v with | .s _ => vslice H v l h m fun r => K r s | _ => False)
    | 2 => (match v with
      | .l _ cs _ => Nat.beq cs.length T.esz = true ∧ vslice H v l h m fun r => K r s
      | .sl _ _ _ sz _ => Nat.beq sz T.esz = true ∧ vslice H v l h m fun r => K r s
      | _ => False)
    | _ => False
  | .fieldAddr t x f => need (ev s x) fun v => ty TT t fun T => match T.nk with
    | 7 => need (nth T.fs f) fun (off, _, _) => match v with
      | .p cs => K (.p (dp off cs)) s
      | .pt i o' => K (.pt i (o' + off)) s
      | .pe i j sz c => K (.pe i j sz (c + off)) s
      | _ => False
    | _ => False
  | .field t x f => need (ev s x) fun v => ty TT t fun T => match T.nk with
    | 7 => need (nth T.fs f) fun (off, ag, sz) => match v with
      | .ag cs => match ag with
        | true => match Nat.ble (off + sz) cs.length with | true => K (.ag (tk sz (dp off cs))) s | false => False
        | false => match dp off cs with | x :: _ => K x s | [] => False
      | _ => False
    | _ => False
  | .indexAddr t x i => need (ev s x) fun v => need ((ev s i).bind asI) fun j => ty TT t fun T => match T.nk with
    | 2 => match v with
      | .l n cs _ => ob (H Bool (decide (0 ≤ j ∧ j < n))) (Nat.beq cs.length T.esz = true ∧ K (.p (shs j cs)) s)
      | .sl o lo n sz _ => ob (H Bool (decide (0 ≤ j ∧ j < n))) (Nat.beq sz T.esz = true ∧ K (.pe o (H Int (lo + j)) sz 0) s)
      | _ => False
    | 8 => match T.arr with
      | none => (match decide (0 ≤ j) with
        | true => need (nth T.fs j.toNat) fun (off, _, _) => match v with
          | .p cs => K (.p (dp off cs)) s
          | .pt i o' => K (.pt i (o' + off)) s
          | .pe i j sz c => K (.pe i j sz (c + off)) s
          | _ => False
        | false => False)
      | some (n, k) => match v with
        | .pt o off => match look o s.σ with
          | some (.ar m [.i k' _] _) => match Nat.beq off 0, decide (k = k') with
            | true, true => m = (n : Int) ∧ ob (H Bool (decide (0 ≤ j ∧ j < (n : Int)))) (K (.pe o j 1 0) s)
            | _, _ => False
          | _ => False
        | _ => False
    | _ => False
  | .index t x i => need (ev s x) fun v => need ((ev s i).bind asI) fun j => ty TT t fun T => match T.nk with
    | 9 => match v with
      | .s a => ob (H Bool (decide (0 ≤ j ∧ j < a.length))) (K (.i .u8 (H Int (a.getD j.toNat 0).toNat)) s)
      | _ => False
    | 8 => match v with
      | .ag cs => match T.arr with
        | none => ∃ q : Nat, ob (H Bool (decide (j = (q : Int)))) (need (nth T.fs q) fun (off, ag, _) => match ag with
          | false => (match dp off cs with | x :: _ => K x s | [] => False)
          | true => False)
        | some _ => False
      | _ => False
    | _ => False
  | .extract t i => need (ev s t) fun v => match v with
    | .tu vs => need (nth vs i) fun x => K x s
    | _ => False
  | .makeMap t r => match r with
    | some _ => False
    | none => ty TT t fun T => match T.nk, T.mb with
      | 4, true => fresh (bmp s) (.ms []) fun j s => K (.mp j) s
      | _, _ => False
  | .lookup t x i ok => match ok with
    | true => False
    | false => need (ev s x) fun v => need (ev s i) fun y => ty TT t fun T => match T.nk, T.mb with
      | 4, true => (match v, y with
        | .mp j, .i .i64 n => (match look j s.σ with
          | some (.ms S) => K (.b (H Bool (decide (n ∈ S)))) s
          | _ => False)
        | _, _ => False)
      | _, _ => False
  | .mapUpdate t m k x => need (ev s m) fun v => need (ev s k) fun y => need (ev s x) fun z => ty TT t fun T => match T.nk, T.mb with
    | 4, true => (match v, y, z with
      | .mp j, .i .i64 n, .b true => (match look j s.σ with
        | some (.ms S) => ob (H Bool (decide (n ∉ S))) (K (.v undef) { s with σ := upd j (.ms (S ++ [n])) s.σ })
        | _ => False)
      | _, _, _ => False)
    | _, _ => False
  | .call c => need (evs s c.args.toList) fun xs => match isCopy c.callee with
   | true => (match xs with
      | [x, y] => match c.argTypes.toList with
        | [t, _] => ty TT t fun T => match T.nk with
          | 2 => vcopy H s T x y K
          | _ => False
        | _ => False
      | _ => False)
   | false => match c.callee with
    | .builtin .len => match c.argTypes.toList with
      | [t] => ty TT t fun T => match T.nk with
        | 2 => (match xs with
          | [.l n _ _] => K (.i .i64 n) s
          | [.sl _ _ n _ _] => K (.i .i64 n) s
          | _ => False)
        | 9 => (match xs with
          | [.s a] => K (.i .i64 (H Int a.length)) s
          | _ => False)
        | _ => False
      | _ => False
    | .builtin .append => match xs with
      | [x, y] => match c.argTypes.toList with
        | [t, u] => match Nat.beq t u with
          | true => ty TT t fun T => match T.nk with
            | 2 => vappend H (bmp s) T x y K
            | _ => False
          | false => False
        | _ => False
      | _ => False
    | .builtin .min => match xs with
      | [.i k m, .i _ n] => K (.i k (H Int (if n < m then n else m))) s
      | _ => False
    | .builtin .max => match xs with
      | [.i k m, .i _ n] => K (.i k (H Int (if m < n then n else m))) s
      | _ => False
    | .builtin .clear => match c.argTypes.toList with
      | [t] => ty TT t fun T => ty TT T.el fun E => match T.nk, E.arr with
        | 2, none => (match xs with
          | [.l n _ _] => ob (H Bool (decide (n = 0))) (K (.tu []) s)
          | [.sl o lo n sz _] => match look o s.σ with
            | some (.ar m cs e) => need (toCs E.z) fun z => need (mixs (fun ix => decide (lo ≤ hd ix ∧ hd ix < lo + n)) (drs z) cs) fun cs' =>
                Nat.beq sz T.esz = true ∧ K (.tu []) { s with σ := upd o (.ar m cs' e) s.σ }
            | _ => False
          | _ => False)
        | _, _ => False
      | _ => False
    | .value f => need (ev s f) fun v => match v with
      | .fn (.func f) cs => vcall (Tri f) s (xs ++ cs) K
      | .fb (.func f) bs => vcall (Tri f) s (bs ++ xs) K
      | _ => False
    | _ => False
  | _ => False

def dstOf (ops : Array Oper) (j : Nat) : Option Nat := (ops[j]?).bind (·.dst)
variable (Yl : Nat → YSp)
/-- a call of a loop's round -/
def yieldOf (o : Oper) (s : S) : Option (Nat × List V) := match o.op with
  | .call c => match c.callee with
    | .value f => match ev s f with
      | some (.fn (.yield l) []) => (evs s c.args.toList).map fun xs => (l, xs)
      | _ => none
    | _ => none
  | _ => none
def vopY (o : Oper) (s : S) (K : V → S → Prop) : Prop := match yieldOf o s with
  | some (l, xs) => vcall (Yl l) s xs K
  | none => vop H TT Tri o s K
/-- operations in the order of the text -/
def vops (ops : Array Oper) : List Oper → S → (S → Prop) → Prop
  | [], s, K => K s
  | o :: r, s, K => match o.guard with
    | none => vopY H TT Tri Yl o s fun v s => vops ops r (put o.dst v s) K
    | some (j, want) => need ((dstOf ops j).bind fun t => look t s.A) fun g => match g with
      | .b x => match want with
        | true => match x with
          | true => vopY H TT Tri Yl o (put (dstOf ops j) (.b true) s) fun v s => vops ops r (put o.dst v s) K
          | false => vops ops r (put o.dst (.v undef) (put (dstOf ops j) (.b false) s)) K
        | false => match x with
          | true => vops ops r (put o.dst (.v undef) (put (dstOf ops j) (.b true) s)) K
          | false => vopY H TT Tri Yl o (put (dstOf ops j) (.b false) s) fun v s => vops ops r (put o.dst v s) K
      | .v (.tuple _) => vops ops r (put o.dst (.v undef) s) K
      | _ => False

/-! a region whose order is drawn -/
mutual
def veq : V → V → Prop
  | .i k n, .i k' n' => k = k' ∧ n = n'
  | .b x, .b y => x = y
  | .s x, .s y => x = y
  | .v u, .v u' => u = u'
  | .l n cs f, .l n' cs' f' => n = n' ∧ f = f' ∧ ceqs cs cs'
  | .p cs, .p cs' => ceqs cs cs'
  | .sl o lo n sz f, .sl o' lo' n' sz' f' => Nat.beq o o' = true ∧ lo = lo' ∧ n = n' ∧ sz = sz' ∧ f = f'
  | .pt o a, .pt o' a' => Nat.beq o o' = true ∧ Nat.beq a a' = true
  | .pe o j sz c, .pe o' j' sz' c' => Nat.beq o o' = true ∧ j = j' ∧ sz = sz' ∧ c = c'
  | .mp o, .mp o' => Nat.beq o o' = true
  | .av k n f, .av k' n' f' => (k = k' ∧ n = n') ∧ f = f'
  | .ag xs, .ag ys => veqs xs ys
  | .tu xs, .tu ys => veqs xs ys
  | .fn f xs, .fn f' ys => f = f' ∧ veqs xs ys
  | .fb f xs, .fb f' ys => f = f' ∧ veqs xs ys
  | _, _ => False
def veqs : List V → List V → Prop
  | [], [] => True
  | x :: xs, y :: ys => veq x y ∧ veqs xs ys
  | _, _ => False
end
/-- what an operation gives, where it is done -/
def vgd (ops : Array Oper) (o : Oper) (s : S) (K : V → Prop) : Prop :=
  match o.guard with
  | none => vop H TT Tri o s fun v _ => K v
  | some (j, want) => need ((dstOf ops j).bind fun t => look t s.A) fun g => match g with
    | .b x => match want with
      | true => match x with
        | true => vop H TT Tri o s fun v _ => K v
        | false => K (.v undef)
      | false => match x with
        | true => K (.v undef)
        | false => vop H TT Tri o s fun v _ => K v
    | .v (.tuple _) => K (.v undef)
    | _ => False
/-- done here, it would give the same -/
def vchk (ops : Array Oper) (s : S) (j : Nat) : Prop := match ops[j]? with
  | none => False
  | some o => need o.dst fun d => need (look d s.A) fun u => vgd H TT Tri ops o s fun v => veq v u
def vrcs (ops : Array Oper) (s : S) : List Nat → Prop
  | [] => True
  | j :: rc => vchk H TT Tri ops s j ∧ vrcs ops s rc
def vdr (ops : Array Oper) : List (Nat × List Nat) → S → (S → Prop) → Prop
  | [], s, K => K s
  | (i, rc) :: r, s, K => need (ops[i]?) fun o => match o.guard with
    | none => vop H TT Tri o s fun v s => vrcs H TT Tri ops (put o.dst v s) rc ∧ vdr ops r (put o.dst v s) K
    | some (j, want) => need ((dstOf ops j).bind fun t => look t s.A) fun g => match g with
      | .b x => match want with
        | true => match x with
          | true => vop H TT Tri o (put (dstOf ops j) (.b true) s) fun v s => vrcs H TT Tri ops (put o.dst v s) rc ∧ vdr ops r (put o.dst v s) K
          | false => vrcs H TT Tri ops (put o.dst (.v undef) (put (dstOf ops j) (.b false) s)) rc ∧ vdr ops r (put o.dst (.v undef) (put (dstOf ops j) (.b false) s)) K
        | false => match x with
          | true => vrcs H TT Tri ops (put o.dst (.v undef) (put (dstOf ops j) (.b true) s)) rc ∧ vdr ops r (put o.dst (.v undef) (put (dstOf ops j) (.b true) s)) K
          | false => vop H TT Tri o (put (dstOf ops j) (.b false) s) fun v s => vrcs H TT Tri ops (put o.dst v s) rc ∧ vdr ops r (put o.dst v s) K
      | .v (.tuple _) => vrcs H TT Tri ops (put o.dst (.v undef) s) rc ∧ vdr ops r (put o.dst (.v undef) s) K
      | _ => False
/-- does i wait for j -/
def dirB (ops : Array Oper) (i j : Nat) : Bool := match ops[i]? with
  | some o => o.after.any fun e => Region.binds .any e && Nat.beq e.on j
  | none => false
def okSoft (ops : Array Oper) (i : Nat) (o : Oper) : Bool := match o.dst with
  | some d => !(o.looksAt ops).contains d && (List.range ops.size).all fun k => Nat.beq k i || (match ops[k]? with | some p => p.dst != some d && (!(p.looksAt ops).contains d || dirB ops k i) | none => true)
  | none => false
def hdO (ops : Array Oper) (j : Nat) : Bool := match ops[j]? with
  | some o => !softO TT o.op
  | none => false
def okRc (ops : Array Oper) (rc : List Nat) : List Nat → List Nat → Bool
  | _, [] => true
  | fd, j :: pre => match mem j rc with
    | true => okRc ops rc fd pre
    | false => match hdO TT ops j || fd.any fun f => dirB ops f j with | true => okRc ops rc (j :: fd) pre | false => false
/-- a new thing, of which none but who waits for it knows -/
def isAl (ops : Array Oper) (i : Nat) : Bool := match ops[i]? with
  | some o => (match o.op with | .alloc t => Nat.beq (TT t).id t && (match (TT t).arr with | none => true | some _ => false) | _ => false) && o.guard.isNone && okSoft ops i o
  | none => false
/-- what only looks, and minds no new thing in memory -/
def wS (ops : Array Oper) (j : Nat) : Bool := match ops[j]? with
  | some o => !softO TT o.op || (match o.op with | .move _ => true | .load _ _ => true | .fieldAddr _ _ _ => true | .indexAddr _ _ _ => true | _ => false)
  | none => true
def okStep (ops : Array Oper) : List Nat → List (Nat × List Nat) → Bool
  | _, [] => true
  | pre, (i, rc) :: r => (match ops[i]? with
    | none => false
    | some o => !mem i pre && (o.after.all fun e => !Region.binds .any e || mem e.on pre) &&
      (match softO TT o.op with
        | true => okSoft ops i o
        | false => (r.all fun p => (isAl TT ops p.1 && pre.all (wS TT ops)) || (match ops[p.1]? with | some q => q.after.any fun e => Region.binds .any e && (!mem e.on pre && (Nat.beq e.on i || !isAl TT ops e.on)) | none => false)) && okRc TT ops rc [i] pre)) && okStep ops (i :: pre) r
def notSel : Op → Bool
  | .select _ _ => false
  | _ => true
def okOrd (ops : Array Oper) (ord : List (Nat × List Nat)) : Bool :=
  (List.range ops.size).all (fun j => mem j (ord.map (·.1))) && ops.all (fun o => notSel o.op) && (List.range ops.size).all (fun i => match ops[i]? with | some o => o.after.all fun e => !Region.binds .any e || Nat.blt e.on i | none => true) && okStep TT ops [] ord
def slot : Operand → Option Nat
  | .tmp t => some t
  | _ => none
/-- so many rounds, one behind the other -/
def iterP (F : (S → Prop) → S → Prop) : Nat → S → Prop
  | 0 => fun _ => False
  | n + 1 => F (iterP F n)
/-! range over a function -/
def looks (A : List (Nat × V)) : List Nat → Option (List V)
  | [] => some []
  | k :: ks => match look k A, looks A ks with | some x, some xs => some (x :: xs) | _, _ => none
def zipA : List Nat → List V → List (Nat × V)
  | k :: ks, x :: xs => (k, x) :: zipA ks xs
  | _, _ => []
def putPs : List Nat → List V → List (Nat × V) → List (Nat × V)
  | p :: ps, x :: xs, A => putPs ps xs ((p, x) :: A)
  | _, _, A => A
def isRec (l : Nat) (rf : LoopState → Option Code → Obj) (vs : List Value) (st : LoopState) (pe : Option Code) (o : Option O) (K : List V → Prop) : Prop := match o with
  | some (.rw l' rf' st' pe' xs vs') => (((l' = l ∧ rf' = rf) ∧ vs' = vs) ∧ st' = st ∧ pe' = pe) ∧ K xs
  | _ => False
def subl (l m : List Nat) : Bool := match diff l m with | [] => true | _ => false
/-- what is handed back names nothing else -/
def closed (r : V) (σ' : Sto) : Bool := subl (refs r ++ refsS σ') (dom σ')
/-- the end of a round -/
def vendY (l : Nat) (rf : LoopState → Option Code → Obj) (vs : List Value) (i : Nat) (R : V → Sto → Prop) (e : Exit) (s : S) : Prop :=
  match e with
  | .normal => isRec l rf vs .busy none (look i s.σ) fun xc => ∃ r σ', R r σ' ∧ closed r σ' = true ∧ sub ⟨[(0, .b true)], upd i (.rw l rf .ready none xc vs) s.σ, s.nx⟩ ⟨[(0, r)], σ', 100⟩
  | .ret => isRec l rf vs .busy none (look i s.σ) fun xc => ∃ r σ', R r σ' ∧ closed r σ' = true ∧ sub ⟨[(0, .b false)], upd i (.rw l rf .done (some .ret) xc vs) s.σ, s.nx⟩ ⟨[(0, r)], σ', 100⟩
  | .exit id => isRec l rf vs .busy none (look i s.σ) fun xc => ∃ r σ', R r σ' ∧ closed r σ' = true ∧ sub ⟨[(0, .b false)], upd i (.rw l rf .done (some (.exit id)) xc vs) s.σ, s.nx⟩ ⟨[(0, r)], σ', 100⟩
  | _ => False
/-- behind the loop -/
def vexit (Q : Exit → S → Prop) (st : LoopState) (pe : Option Code) (s : S) : Prop := match st with
  | .ready => (match pe with | none => Q .normal s | some _ => False)
  | .done => (match pe with | some c => (match c with | .ret => Q .ret s | .exit id => Q (.exit id) s | _ => False) | none => False)
  | _ => False
def noSR : Code → Bool
  | .seq a b => match noSR a with | true => noSR b | false => false
  | .cond _ a b => match noSR a with | true => noSR b | false => false
  | .block _ c => noSR c
  | .loop c => noSR c
  | .scope _ => false
  | .rangeFunc _ _ _ _ => false
  | _ => true
variable (TrI : Nat → YSp → Spec)
/-- code -/
def vcode (OR : Nat → List (Nat × List Nat)) : Code → (Exit → S → Prop) → S → Prop
  | .skip, Q, s => Q .normal s
  | .region id ops d, Q, s => match d with
    | false => vops H TT Tri Yl ops ops.toList s (Q .normal)
    | true => vdr H TT Tri ops (OR id) s (Q .normal)
  | .seq a b, Q, s => vcode OR a (fun (e : Exit) s => match e with | .normal => vcode OR b Q s | e => Q e s) s
  | .cond c a b, Q, s => need (ev s c) fun v => match v with
    | .b x => match x with
      | true => vcode OR a Q (put (slot c) (.b true) s)
      | false => vcode OR b Q (put (slot c) (.b false) s)
    | _ => False
  | .block id c, Q, s => vcode OR c (fun (e : Exit) s => match e with | .exit j => (match Nat.beq j id with | true => Q .normal s | false => Q (.exit j) s) | e => Q e s) s
  | .exit id, Q, s => Q (.exit id) s
  | .label _, Q, s => Q .normal s
  | .scope c, Q, s => vcode OR c (fun (e : Exit) s => match e with | .goto _ => False | e => Q e s) s
  | .ret, Q, s => Q .ret s
  | .loop c, Q, s => ∃ u : Nat, match u with
    | 0 => ∃ (α : Type) (st : α → S) (I : α → Prop) (μ : α → Nat), (∃ x, I x ∧ sub s (st x)) ∧
      ∀ x, I x → vcode OR c (fun (e : Exit) s => match e with | .normal => ∃ y, I y ∧ μ y < μ x ∧ sub s (st y) | e => Q e s) (st x)
    | n + 1 => iterP (fun k s => vcode OR c (fun (e : Exit) s => match e with | .normal => k s | e => Q e s) s) n s
  | .rangeFunc g ps assign body, Q, s => need (ev s g) fun v => match v with
    | .fn (.func f) cs => ∃ ks : List Nat, need (looks s.A ks) fun xc => ∀ (l : Nat) (rf : LoopState → Option Code → Obj) (vs : List Value), ∃ J : YSp,
      (∀ xs σ R, J xs σ R → ∃ i, isRec l rf vs .ready none (look i σ) fun xc => Nat.beq ps.size xs.length = true ∧
        vcode OR assign (fun (e : Exit) s => match e with
          | .normal => isRec l rf vs .ready none (look i s.σ) fun xc => vcode OR body (vendY l rf vs i R) { s with σ := upd i (.rw l rf .busy none xc vs) s.σ }
          | _ => False) ⟨putPs ps.toList xs (zipA ks xc), σ, 100⟩) ∧
      fresh s (.rw l rf .ready none xc vs) fun j s1 => vcall (TrI l J f) s1 (.fn (.yield l) [] :: cs) fun _ s' => match look j s'.σ with
        | some (.rw l' rf' st pe xc vs') => ((l' = l ∧ rf' = rf) ∧ vs' = vs) ∧ vexit Q st pe { s' with σ := upd j (.rw l rf .exhausted pe xc vs) s'.σ }
        | _ => False
    | _ => False
  | _, _, _ => False
/-- what a function hands back -/
def vress (s : S) : List ResultVar → (List V → Prop) → Prop
  | [], K => K []
  | .tmp t :: r, K => need (look t s.A) fun v => vress s r fun vs => K (v :: vs)
  | .cell a t :: r, K => need (look a s.A) fun p => ty TT t fun T => vload H T s.σ p fun v => vress s r fun vs => K (v :: vs)
def one : List V → V
  | [x] => x
  | xs => .tu xs
def vend (rs : Array ResultVar) (R : V → Sto → Prop) (e : Exit) (s : S) : Prop :=
  match e with
  | .normal => vress H TT s rs.toList fun vs => ∃ r σ', R r σ' ∧ closed r σ' = true ∧ sub ⟨[(0, one vs)], s.σ, s.nx⟩ ⟨[(0, r)], σ', 100⟩
  | .ret => vress H TT s rs.toList fun vs => ∃ r σ', R r σ' ∧ closed r σ' = true ∧ sub ⟨[(0, one vs)], s.σ, s.nx⟩ ⟨[(0, r)], σ', 100⟩
  | _ => False
def notDef : Op → Bool
  | .defer _ => false
  | _ => true
/-- a slot that is written is one of the frame -/
def okD (N : Nat) : List Oper → Bool
  | [] => true
  | o :: r => match o.dst with
    | some d => (match Nat.blt d N with | true => okD N r | false => false)
    | none => okD N r
def okC (N : Nat) (OR : Nat → List (Nat × List Nat)) : Code → Bool
  | .region id ops d => (match d with | true => okOrd TT ops (OR id) | false => true) && ops.all (fun o => notDef o.op) && okD N ops.toList
  | .seq a b => match okC N OR a with | true => okC N OR b | false => false
  | .cond _ a b => match okC N OR a with | true => okC N OR b | false => false
  | .block _ c => okC N OR c
  | .loop c => okC N OR c
  | .scope c => okC N OR c
  | .rangeFunc _ ps assign body => match okC N OR assign, okC N OR body, noSR assign && noSR body, ps.all fun p => Nat.blt p N with | true, true, true, true => true | _, _, _, _ => false
  | _ => true
def args0 : Nat → List V → List (Nat × V)
  | _, [] => []
  | n, x :: xs => (n, x) :: args0 (n + 1) xs
def vfunc (OR : Nat → List (Nat × List Nat)) (c : Code) (rs : Array ResultVar) (xs : List V) (σ : Sto) (R : V → Sto → Prop) : Prop :=
  vcode H TT Tri Yl TrI OR c (vend H TT rs R) ⟨args0 0 xs, σ, 100⟩
end
end Go.Proofs.Ytilmhjojbolbeaa.AM

/-! ## What memory keeps: plain lemmas on worlds, for this seat's walks. No condition. -/
namespace Go.Proofs.Ytilmhjojbolbeaa
open Go.RowKit

/-- every block outside S lies as it lay -/
structure Kp (S : Nat → Prop) (w w' : World) : Prop where
  os : w'.os = w.os
  tape : w'.tape = w.tape
  output : w'.output = w.output
  size : w.heap.size ≤ w'.heap.size
  block : ∀ k, k < w.heap.size → ¬ S k → w'.heap[k]? = w.heap[k]?

/-- nothing that lay has turned -/
abbrev Nw (w w' : World) : Prop := Below w.heap.size w w'

theorem Kp.refl (S : Nat → Prop) (w : World) : Kp S w w := ⟨rfl, rfl, rfl, Nat.le_refl _, fun _ _ _ => rfl⟩
theorem Kp.trans {S T : Nat → Prop} {w w1 w2 : World} (h : Kp S w w1) (k : Kp T w1 w2) (hT : ∀ b, T b → b < w.heap.size → S b) : Kp S w w2 :=
  ⟨k.os.trans h.os, k.tape.trans h.tape, k.output.trans h.output, Nat.le_trans h.size k.size,
    fun i hi hs => (k.block i (Nat.lt_of_lt_of_le hi h.size) (fun ht => hs (hT i ht hi))).trans (h.block i hi hs)⟩
theorem Kp.mono {S T : Nat → Prop} {w w' : World} (h : Kp S w w') (hT : ∀ b, S b → b < w.heap.size → T b) : Kp T w w' :=
  ⟨h.os, h.tape, h.output, h.size, fun i hi ht => h.block i hi (fun hs => ht (hT i hs hi))⟩
theorem Kp.below {S : Nat → Prop} {B : Nat} {w w' : World} (h : Kp S w w') (hS : ∀ b, S b → B ≤ b) (hB : B ≤ w.heap.size) : Below B w w' :=
  ⟨h.os, h.tape, h.output, h.size, fun i hi => h.block i (by omega) (fun hs => by have := hS i hs; omega)⟩
theorem Kp.nw {w w' : World} (h : Kp (fun _ => False) w w') : Nw w w' := h.below (fun _ h => h.elim) (Nat.le_refl _)
theorem kp_of_nw {w w' : World} (h : Nw w w') (S : Nat → Prop) : Kp S w w' := ⟨h.os, h.tape, h.output, h.size, fun i hi _ => h.block i hi⟩
theorem Kp.alloc {S : Nat → Prop} {w w1 : World} (h : Kp S w w1) (o : Obj) : Kp S w (w1.alloc o) :=
  ⟨h.os, h.tape, h.output, Nat.le_trans h.size (by simp), fun i hi hs => (Below.heap_alloc _ _ _ (Nat.lt_of_lt_of_le hi h.size)).trans (h.block i hi hs)⟩
theorem Kp.drew {S : Nat → Prop} {w w1 : World} (h : Kp S w w1) : Kp S w w1.drew := ⟨h.os, h.tape, h.output, h.size, h.block⟩
theorem Kp.drewN {S : Nat → Prop} {w w1 : World} (h : Kp S w w1) (n : Nat) : Kp S w (w1.drewN n) := ⟨h.os, h.tape, h.output, h.size, h.block⟩
theorem Kp.setCell {S : Nat → Prop} {w w1 : World} (h : Kp S w w1) {p : Addr} (hp : p.block < w.heap.size → S p.block) (u : Value) : Kp S w (w1.setCell p u) :=
  ⟨h.os, h.tape, h.output, by simpa [World.setCell] using h.size, fun i hi hs => (Below.heap_setCell _ _ _ _ (fun e => by subst e; exact hs (hp hi))).trans (h.block i hi hs)⟩
theorem Kp.blk {S : Nat → Prop} {w w' : World} (h : Kp S w w') {b : Nat} {o : Obj} (hb : w.heap[b]? = some o) (hs : ¬ S b) : w'.heap[b]? = some o :=
  (h.block b (Array.getElem?_eq_some_iff.1 hb).1 hs).trans hb
theorem Kp.cell {S : Nat → Prop} {w w' : World} (h : Kp S w w') {a : Addr} {v : Value} (hc : w.cell? a = some v) (hs : ¬ S a.block) : w'.cell? a = some v :=
  (World.cell?_of_block (h.block a.block (World.block_lt_of_cell? w a hc) hs)).trans hc
theorem Kp.own {S : Nat → Prop} {w w' : World} (h : Kp S w w') {base : Nat} {e : TypeId} {size n : Nat} {v : Value} {xs : List Value} (ho : w.ownsRow base e size v n xs) (hs : ∀ b, v.ownBlock = some b → ¬ S b) : w'.ownsRow base e size v n xs := by
  refine ⟨ho.1, ?_⟩
  rcases ho.2 with hn | ⟨g, cap, cur, rfl, hb, hgg, rest⟩
  · exact .inl hn
  · exact .inr ⟨g, cap, cur, rfl, hb, h.blk hgg (hs g rfl), rest⟩
theorem nw_cell {w w' : World} (h : Nw w w') {a : Addr} {v : Value} (hc : w.cell? a = some v) : w'.cell? a = some v := (kp_of_nw h (fun _ => False)).cell hc (fun h => h)
theorem nw_alloc (w : World) (o : Obj) : Nw w (w.alloc o) := (Below.refl _ w).alloc (Nat.le_refl _) o
/-! ### whole numbers in a slice -/
def rd (xs : List Int) (i : Nat) : Int := xs.getD i 0
theorem rd_eq (xs : List Int) (i : Nat) : rd xs i = xs[i]?.getD 0 := by simp [rd, List.getD_eq_getElem?_getD]
def iv (k : IntKind) (xs : List Int) : List Value := xs.map (Value.int k)
@[simp] theorem iv_length (k : IntKind) (xs : List Int) : (iv k xs).length = xs.length := by simp [iv]
/-- the slice at a (length n) reads as the numbers xs -/
def IR (k : IntKind) (w : World) (a : Option Addr) (xs : List Int) : Prop :=
  ∀ j, j < xs.length → ∃ b o, a = some ⟨b, o, none⟩ ∧ w.cell? ⟨b, o + j, none⟩ = some (.int k (rd xs j))
theorem IR.kp {k : IntKind} {S : Nat → Prop} {w w' : World} {a : Option Addr} {xs : List Int} (h : IR k w a xs) (hk : Kp S w w') (hs : ∀ d, a = Option.some d → ¬ S d.block) : IR k w' a xs :=
  fun j hj => by obtain ⟨b, o, rfl, hc⟩ := h j hj; exact ⟨b, o, rfl, hk.cell hc (hs ⟨b, o, none⟩ rfl)⟩
theorem IR.nw {k : IntKind} {w w' : World} {a : Option Addr} {xs : List Int} (h : IR k w a xs) (hk : Nw w w') : IR k w' a xs :=
  fun j hj => by obtain ⟨b, o, rfl, hc⟩ := h j hj; exact ⟨b, o, rfl, nw_cell hk hc⟩
theorem IR.below {k : IntKind} {B : Nat} {w w' : World} {a : Option Addr} {xs : List Int} (h : IR k w a xs) (hk : Below B w w') (hs : ∀ d, a = Option.some d → d.block < B) : IR k w' a xs :=
  fun j hj => by obtain ⟨b, o, rfl, hc⟩ := h j hj; exact ⟨b, o, rfl, (hk.cell (p := ⟨b, o + j, none⟩) (hs ⟨b, o, none⟩ rfl)).trans hc⟩
theorem IR.lt {k : IntKind} {w : World} {a : Option Addr} {xs : List Int} (h : IR k w a xs) (h0 : 0 < xs.length) {d : Addr} (hd : a = Option.some d) : d.block < w.heap.size := by
  obtain ⟨b, o, rfl, hc⟩ := h 0 h0
  cases hd
  exact World.block_lt_of_cell? w _ hc
theorem IR.take {k : IntKind} {w : World} {a : Option Addr} {xs : List Int} (h : IR k w a xs) (n : Nat) : IR k w a (xs.take n) := fun j hj => by
  have hj' : j < n ∧ j < xs.length := by simp at hj; omega
  obtain ⟨b, o, rfl, hc⟩ := h j hj'.2
  refine ⟨b, o, rfl, ?_⟩
  rw [hc]; simp [rd_eq, hj'.1]
theorem IR.drop {k : IntKind} {w : World} {b o : Nat} {xs : List Int} (h : IR k w (Option.some ⟨b, o, none⟩) xs) (n : Nat) : IR k w (Option.some ⟨b, o + n, none⟩) (xs.drop n) := fun j hj => by
  simp at hj
  obtain ⟨b', o', e, hc⟩ := h (n + j) (by omega)
  cases e
  refine ⟨_, _, rfl, ?_⟩
  rw [show o + n + j = o + (n + j) by omega, hc]; simp [rd_eq]
/-! ### a block of several cells: a struct behind a pointer -/
theorem blk_cell {w : World} {g : Nat} {t : TypeId} {cs : Array Value} {f : Nat × Nat} (h : w.heap[g]? = some (.cells cs t f)) (i : Nat) : w.cell? ⟨g, i, none⟩ = cs[i]? := cell_of_row w g i cs t f h
theorem blk_frozen {w : World} {g : Nat} {t : TypeId} {cs : Array Value} (h : w.heap[g]? = some (.cells cs t (0, 0))) (i : Nat) : w.frozen? ⟨g, i, none⟩ = false := by simp [World.frozen?, h]
/-! ### make([]int, n) -/
end Go.Proofs.Ytilmhjojbolbeaa

/-! ## append in a walk, said of what is owned: plain lemmas for this seat's walks. Conditions: the new slice fits. -/
namespace Go.Proofs.Ytilmhjojbolbeaa
open Go.RowKit
section
variable {P : Program} {ops : Array Oper} {rest : List Oper} {o : Oper} {a : Act} {Q : Exit → Act → World → Prop}

end
end Go.Proofs.Ytilmhjojbolbeaa

/-! ## 'for x := range f { .. }' over a function, in the widest fence: plain lemmas for this seat's walks. No condition. -/
namespace Go.Proofs.Ytilmhjojbolbeaa
open Go.RowKit

/-- the loop's record -/
def LRec (fn : FuncId) (tmps : Array Value) (ps : Array Tmp) (assign body : Code) (D : Nat) (st : LoopState) (pe : Option Code) : Loop := { state := st, pending := pe, fn, tmps, params := ps, assign, body, defers := D }

theorem kp_putObj (w : World) (l : Nat) (o : Obj) : Kp (fun k => k = l) w (w.putObj l o) :=
  ⟨rfl, rfl, rfl, by simp, fun k _ h => World.putObj_heap_other h⟩

/-- how a round's body is left -/
def rfPost (_P : Program) (l : Nat) (r : LoopState → Option Code → Loop) (R : Ending → World → Prop) : Exit → Act → World → Prop
  | .normal, _, W => W.heap[l]? = some (.loop (r .busy none)) ∧ R (.returned (.bool true)) (W.putObj l (.loop (r .ready none)))
  | .ret, _, W => W.heap[l]? = some (.loop (r .busy none)) ∧ R (.returned (.bool false)) (W.putObj l (.loop (r .done (some .ret))))
  | .exit id, _, W => W.heap[l]? = some (.loop (r .busy none)) ∧ R (.returned (.bool false)) (W.putObj l (.loop (r .done (some (.exit id)))))
  | _, _, _ => False

/-- the round has begun -/
def RBegun (P : Program) (m l : Nat) (r : LoopState → Option Code → Loop) (body : Code) (R : Ending → World → Prop) (W : World) (a₁ : Act) (W' : World) : Prop :=
  W' = W ∧ ∀ o, o = Obj.loop (r .busy none) → body.wpIn (Fence.wide.inRound l) m P (rfPost P l r R) a₁ (W.putObj l o)
/-- a contract of a function whose body holds such a loop -/
theorem rf_calls {P : Program} {f : FuncId} {fn : Func} {c : Code} {args : Array Value} {w : World} {R : Ending → World → Prop} (n : Nat) (hf : P.funcs[f]? = some fn) (hb : fn.body = some c)
    (h : c.wp P (bodyPostM Fence.wide n P fn R) { tmps := args ++ Array.replicate (fn.ntmps - args.size) undef, defers := [] } w) : Calls P f args w R :=
  (callsIn_wide (n := n)).1 (callsIn_of_wp_marks hf hb trivial ((wpIn_wide (n := n)).2 h) rfl)
end Go.Proofs.Ytilmhjojbolbeaa

/-! ## A region of a round's body walked as one of a plain frame: plain lemmas for this seat's walks. No condition. -/
namespace Go.Proofs.Ytilmhjojbolbeaa
open Go.RowKit

def isDefer : Op → Bool
  | .defer _ => true
  | _ => false
theorem rows_in {l m : Nat} {P : Program} {row : String} {args : Array Value} {w : World} {R : Value → World → Prop} (h : Rows P row args w R) : RowsIn (Fence.wide.inRound l) m P row args w R :=
  fun c cs _ => let ⟨v, w', r, s⟩ := h c cs; ⟨v, w', r, stepsIn_wide.2 s⟩
theorem calls_in {l m : Nat} {P : Program} {f : FuncId} {args : Array Value} {w : World} {R : Ending → World → Prop} (h : Calls P f args w R) : CallsIn (Fence.wide.inRound l) m P f args w R :=
  CallsIn.inRound l (callsIn_wide.2 h)
theorem oper_in {l m : Nat} {P : Program} {o : Oper} {a : Act} {w : World} {K : Act → World → Prop} {Q : Exit → Act → World → Prop} (hd : isDefer o.op = false) (h : o.wp P a w K Q) : o.wpIn (Fence.wide.inRound l) m P a w K Q := by
  refine ⟨fun _ _ => trivial, ?_⟩
  have e : o.semAt (Fence.wide.inRound l).round a.eval = execOp a.eval o := Oper.semAt_some l _ o (fun c hc => by rw [hc] at hd; cases hd)
  rw [e]
  unfold Oper.wp at h
  generalize (execOp a.eval o).run P w = r at h ⊢
  cases r with
  | ok x w' =>
    cases x with
    | value v => exact h
    | skip => exact h
    | defer d => exact h
    | enter f args => exact ⟨fun hh => by simp [Fence.wide, Fence.inRound] at hh, calls_in h⟩
    | row row args => exact ⟨fun hh => by simp [Fence.wide, Fence.inRound] at hh, rows_in h⟩
    | round l f tmps assign body => exact h.elim
    | _ => exact h.elim
  | halt x w' => cases x <;> first | exact h | exact h.elim
theorem any_in {l m : Nat} {P : Program} {md : Region.Mode} {ops : Array Oper} {Q : Exit → Act → World → Prop} (hd : ∀ (i : Nat) (o : Oper), ops[i]? = some o → isDefer o.op = false) (hout : ¬ LetsOut Q) :
    ∀ (f : Nat) (listed : Array Bool) (a : Act) (w : World), wpAny P md ops Q f listed a w → wpAnyIn (Fence.wide.inRound l) m P md ops Q f listed a w
  | 0, _, _, _, h => h
  | f + 1, listed, a, w, h => by
    refine ⟨h.1, fun i hi => ?_⟩
    have h2 := h.2 i hi
    unfold wpOp at h2
    unfold wpOpIn
    cases ho : ops[i]? with
    | none => simp only [ho] at h2 ⊢; exact any_in hd hout f _ a w h2
    | some o =>
      simp only [ho] at h2 ⊢
      by_cases hw : Region.wanted o (yielded ops a.tmps) = true
      · rw [if_pos hw] at h2 ⊢
        rcases h2 with h2 | h2
        · exact Oper.wpIn_mono (fun a' w' h' => any_in hd hout f _ a' w' h') (oper_in (hd i o ho) h2)
        · exact absurd h2.2 hout
      · rw [if_neg hw] at h2 ⊢
        exact ⟨fun _ _ => trivial, any_in hd hout f _ _ w h2⟩
theorem list_in {l m : Nat} {P : Program} {ops : Array Oper} {Q : Exit → Act → World → Prop} (hout : ¬ LetsOut Q) :
    ∀ (L : List Oper), (∀ o ∈ L, isDefer o.op = false) → ∀ (a : Act) (w : World), wpList P ops Q L a w → wpListIn (Fence.wide.inRound l) m P ops Q L a w
  | [], _, _, _, h => h
  | o :: L, hd, a, w, h => by
    unfold wpList at h
    unfold wpListIn
    by_cases hw : Region.wanted o (yielded ops a.tmps) = true
    · rw [if_pos hw] at h ⊢
      rcases h with h | h
      · exact Oper.wpIn_mono (fun a' w' h' => list_in hout L (fun o ho => hd o (by simp [ho])) a' w' h') (oper_in (hd o (by simp)) h)
      · exact absurd h.2 hout
    · rw [if_neg hw] at h ⊢
      exact ⟨fun _ _ => trivial, list_in hout L (fun o ho => hd o (by simp [ho])) _ w h⟩
end Go.Proofs.Ytilmhjojbolbeaa

namespace Go.Proofs.Ytilmhjojbolbeaa.AM
open Go

-- memory that stays reads as columns
mutual
def RC (w : World) (own : Nat → Prop) : C → Ix → Value → Prop
  | .i k f, ix, v => v = .int k (f ix)
  | .b f, ix, v => v = .bool (f ix)
  | .s f, ix, v => v = .string ⟨(f ix).toArray⟩
  | .l n cs, ix, v => ∃ a len cap, v = .slice a len cap ∧ n ix = (len : Nat) ∧ len ≤ cap ∧ (len = 0 ∨ 0 < cs.length ∧ ∃ b o, a = some ⟨b, o, none⟩ ∧ ¬ own b ∧ b < w.heap.size ∧ ∀ j, j < len → RCs w own cs (ix ++ [(j : Int)]) b (o + j * cs.length))
  | .p cs, ix, v => ∃ b o, v = .pointer (some ⟨b, o, none⟩) ∧ ¬ own b ∧ b < w.heap.size ∧ RCs w own cs ix b o
  | .v u, _, v => v = u ∧ u.oneCell' = true
def RCs (w : World) (own : Nat → Prop) : List C → Ix → Nat → Nat → Prop
  | [], _, _, _ => True
  | c :: cs, ix, b, o => (∃ v, w.cell? ⟨b, o, none⟩ = some v ∧ RC w own c ix v) ∧ RCs w own cs ix b (o + 1)
end
/-- of an object: its block, the block's cells, has it none yet, how many elements, of how many cells -/
structure GI where
  bl : Nat
  cp : Nat
  vi : Bool
  ln : Nat
  sz : Nat
abbrev G := Nat → GI
/-- a slice of an object -/
def RSl (g : GI) (lo n : Int) (sz : Nat) (full : Bool) (v : Value) : Prop :=
  ∃ a len cap, v = .slice a len cap ∧ n = (len : Nat) ∧
    ((len = 0 ∧ cap = 0 ∧ (g.vi = false → a.isSome = true)) ∨
     (g.vi = false ∧ ∃ l : Nat, lo = l ∧ a = some ⟨g.bl, l * sz, none⟩ ∧ len ≤ cap ∧ l + len ≤ g.ln ∧ sz = g.sz ∧ (if full then cap = len else l * sz + cap * sz = g.cp)))
-- values
mutual
def RV (g : G) (w : World) (own : Nat → Prop) : V → Value → Prop
  | .i k n, v => v = .int k n
  | .b x, v => v = .bool x
  | .s x, v => v = .string ⟨x.toArray⟩
  | .v u, v => v = u
  | .l n cs full, v => ∃ a len cap, v = .slice a len cap ∧ n = (len : Nat) ∧ (len ≤ cap ∧ (full = true → cap = len)) ∧ (len = 0 ∨ 0 < cs.length ∧ ∃ b o, a = some ⟨b, o, none⟩ ∧ ¬ own b ∧ b < w.heap.size ∧ ∀ j, j < len → RCs w own cs [(j : Int)] b (o + j * cs.length))
  | .p cs, v => ∃ b o, v = .pointer (some ⟨b, o, none⟩) ∧ ¬ own b ∧ b < w.heap.size ∧ RCs w own cs [] b o
  | .sl o lo n sz full, v => RSl (g o) lo n sz full v
  | .pt o off, v => v = .pointer (some ⟨(g o).bl, off, none⟩) ∧ (g o).vi = false
  | .pe o j sz c, v => ∃ i : Nat, j = i ∧ v = .pointer (some ⟨(g o).bl, i * sz + c, none⟩) ∧ (g o).vi = false ∧ i < (g o).ln ∧ sz = (g o).sz
  | .ag xs, v => ∃ vs, v = .agg vs ∧ RVs g w own xs vs.toList
  | .tu xs, v => ∃ vs, v = .tuple vs ∧ RVs g w own xs vs.toList
  | .fn f xs, v => ∃ vs, v = .func f #[] vs ∧ RVs g w own xs vs.toList
  | .fb f xs, v => ∃ vs, v = .func f vs #[] ∧ RVs g w own xs vs.toList
  | .mp o, v => v = .map (some (g o).bl) ∧ (g o).vi = false
  | .av k n f, v => ∃ vs : Array Value, v = .agg vs ∧ vs.size = n ∧ ∀ j : Nat, j < n → vs[j]? = some (.int k (f [(j : Int)]))
def RVs (g : G) (w : World) (own : Nat → Prop) : List V → List Value → Prop
  | [], [] => True
  | x :: xs, v :: vs => RV g w own x v ∧ RVs g w own xs vs
  | _, _ => False
end
/-- a map of one's own from whole numbers to true, as the numbers in it -/
def mapIs (es : Array MapEntry) (S : List Int) : Prop := es.toList.map (fun e => (e.key, e.val)) = S.map fun x => (Value.int .i64 x, Value.bool true)
/-- objects -/
def RO (g : GI) (RVs : List V → List Value → Prop) (w : World) (own : Nat → Prop) : O → Prop
  | .st xs e => g.vi = false ∧ ∃ vs, w.heap[g.bl]? = some (.cells vs e (0, 0)) ∧ RVs xs vs.toList
  | .ar n cs e => n = (g.ln : Nat) ∧ (n = 0 ∨ (cs.length = g.sz ∧ 0 < g.sz)) ∧ ((g.vi = true ∧ n = 0) ∨
      (g.vi = false ∧ (∃ c, w.heap[g.bl]? = some (.cells c e (0, 0)) ∧ c.size = g.cp ∧ g.ln * g.sz ≤ c.size) ∧ ∀ j, j < g.ln → RCs w own cs [(j : Int)] g.bl (j * g.sz)))
  | .rw l rf st pe xs vs => g.vi = false ∧ g.bl = l ∧ w.heap[g.bl]? = some (rf st pe) ∧ RVs xs vs
  | .ms S => g.vi = false ∧ ∃ es clock, w.heap[g.bl]? = some (.map es clock) ∧ mapIs es S
/-- of a frame: the blocks that it was handed, those that nothing it holds for good lies in, the names at its start -/
structure Fr where
  o : Nat → Prop
  X : Nat → Prop
  g0 : G
def mine (σ : Sto) (g : G) (b : Nat) : Prop := ∃ i, (look i σ).isSome = true ∧ (g i).vi = false ∧ (g i).bl = b
def own (S0 : Fr) (σ : Sto) (g : G) (b : Nat) : Prop := S0.X b ∨ mine σ g b
/-- the objects of a store lie in memory, each in a block of its own -/
structure Ob (S0 : Fr) (g : G) (w : World) (σ : Sto) : Prop where
  objs : ∀ i o, look i σ = some o → RO (g i) (RVs g w (own S0 σ g)) w (own S0 σ g) o
  inj : ∀ i j, (look i σ).isSome = true → (look j σ).isSome = true → (g i).vi = false → (g j).vi = false → (g i).bl = (g j).bl → i = j
/-- slots -/
def RA (g : G) (w : World) (own : Nat → Prop) (A : List (Nat × V)) (tmps : Array Value) : Prop :=
  ∀ t x, look t A = some x → RV g w own x (tmps.getD t undef)
/-- the state of a frame; what was there when it began -/
structure Rel (w0 : World) (S0 : Fr) (N : Nat) (g : G) (s : S) (tmps : Array Value) (w : World) : Prop where
  ob : Ob S0 g w s.σ
  ra : RA g w (own S0 s.σ g) s.A tmps
  sz : tmps.size = N
  kp : Kp S0.o w0 w
  fr : ∀ b, mine s.σ g b → S0.o b ∨ w0.heap.size ≤ b
  pin : ∀ i, i < 100 → (look i s.σ).isSome = true → g i = S0.g0 i
  nx : 100 ≤ s.nx
  dj : ∀ b, S0.X b → ¬ S0.o b ∧ b < w0.heap.size
theorem freeN_le (l : List Nat) : ∀ k n, n ≤ freeN k n l
  | 0, _ => Nat.le_refl _
  | k + 1, n => by
    unfold freeN
    split
    · exact Nat.le_trans (Nat.le_succ n) (freeN_le l k (n + 1))
    · exact Nat.le_refl _
theorem Rel.bmp {w0 : World} {S0 : Fr} {N : Nat} {g : G} {s : S} {tmps : Array Value} {w : World} (h : Rel w0 S0 N g s tmps w) : Rel w0 S0 N g (bmp s) tmps w :=
  ⟨h.ob, h.ra, h.sz, h.kp, h.fr, h.pin, Nat.le_trans h.nx (freeN_le _ _ _), h.dj⟩
theorem Rel.apart {w0 : World} {S0 : Fr} {N : Nat} {g : G} {s : S} {tmps : Array Value} {w : World} (h : Rel w0 S0 N g s tmps w) {b : Nat} (hb : mine s.σ g b) : ¬ S0.X b := fun hx => by
  have h1 := h.dj b hx
  rcases h.fr b hb with h2 | h2
  · exact h1.1 h2
  · omega
def okF (P : Program) (f : FuncId) : Bool := match P.funcs[f]? with
  | some fn => fn.name != "runtime.NumGoroutine" && fn.body.isSome
  | none => false
/-- what a call does -/
def TriG (CC : List Value → World → (Ending → World → Prop) → Prop) : YSp := fun xs σ R => ∀ X g w vs, (∀ b, X b → ¬ mine σ g b ∧ b < w.heap.size) → Ob ⟨mine σ g, X, g⟩ g w σ → RVs g w (own ⟨mine σ g, X, g⟩ σ g) xs vs →
  CC vs w fun e w' => ∃ r σ' g' v, R r σ' ∧ e = .returned v ∧ RV g' w' (own ⟨mine σ g, X, g⟩ σ' g') r v ∧ Ob ⟨mine σ g, X, g⟩ g' w' σ' ∧ Kp (mine σ g) w w' ∧
    (∀ b, mine σ' g' b → mine σ g b ∨ w.heap.size ≤ b) ∧
    (∀ i, i < 100 → (look i σ').isSome = true → g' i = g i) ∧ closed r σ' = true
def TriS (P : Program) : Spec := fun f xs σ R => okF P f = true ∧ TriG (fun vs w R => Calls P f vs.toArray w R) xs σ R

/-! ### what is kept -/
section
variable {w w' : World} {ow ow' : Nat → Prop}
-- memory that stays, stays
mutual
theorem RC_keep (hk : ∀ b, ¬ ow b → b < w.heap.size → w'.heap[b]? = w.heap[b]?) (hs : w.heap.size ≤ w'.heap.size) (ho : ∀ b, b < w.heap.size → ¬ ow b → ¬ ow' b) :
    ∀ (c : C) (ix : Ix) (v : Value), RC w ow c ix v → RC w' ow' c ix v
  | .i _ _, _, _, h => h
  | .b _, _, _, h => h
  | .s _, _, _, h => h
  | .v _, _, _, h => h
  | .l n cs, ix, v, h => by
    obtain ⟨a, len, cap, e, hn, hcp, h⟩ := h
    refine ⟨a, len, cap, e, hn, hcp, h.imp id ?_⟩
    rintro ⟨h0, b, o, ea, hb, hl, hc⟩
    exact ⟨h0, b, o, ea, ho b hl hb, Nat.lt_of_lt_of_le hl hs, fun j hj => RCs_keep hk hs ho cs _ _ _ hb (hc j hj)⟩
  | .p cs, ix, v, h => by
    obtain ⟨b, o, ea, hb, hl, hc⟩ := h
    exact ⟨b, o, ea, ho b hl hb, Nat.lt_of_lt_of_le hl hs, RCs_keep hk hs ho cs _ _ _ hb hc⟩
theorem RCs_keep (hk : ∀ b, ¬ ow b → b < w.heap.size → w'.heap[b]? = w.heap[b]?) (hs : w.heap.size ≤ w'.heap.size) (ho : ∀ b, b < w.heap.size → ¬ ow b → ¬ ow' b) :
    ∀ (cs : List C) (ix : Ix) (b o : Nat), ¬ ow b → RCs w ow cs ix b o → RCs w' ow' cs ix b o
  | [], _, _, _, _, h => h
  | c :: cs, ix, b, o, hb, h => by
    obtain ⟨⟨v, hc, hv⟩, h2⟩ := h
    exact ⟨⟨v, (World.cell?_of_block (hk b hb (World.block_lt_of_cell? w ⟨b, o, none⟩ hc))).trans hc, RC_keep hk hs ho c ix v hv⟩, RCs_keep hk hs ho cs ix b (o + 1) hb h2⟩
end
/-- the same of cells in a block that may be owned -/
theorem RCs_keep' (hk : ∀ b, ¬ ow b → b < w.heap.size → w'.heap[b]? = w.heap[b]?) (hs : w.heap.size ≤ w'.heap.size) (ho : ∀ b, b < w.heap.size → ¬ ow b → ¬ ow' b) :
    ∀ (cs : List C) (ix : Ix) (b o : Nat), (∀ q v, o ≤ q → q < o + cs.length → w.cell? ⟨b, q, none⟩ = some v → w'.cell? ⟨b, q, none⟩ = some v) → RCs w ow cs ix b o → RCs w' ow' cs ix b o
  | [], _, _, _, _, h => h
  | c :: cs, ix, b, o, hb, h => by
    obtain ⟨⟨v, hc, hv⟩, h2⟩ := h
    exact ⟨⟨v, hb o v (Nat.le_refl _) (by simp) hc, RC_keep hk hs ho c ix v hv⟩, RCs_keep' hk hs ho cs ix b (o + 1) (fun q v h1 h2 => hb q v (by omega) (by simp; omega)) h2⟩
variable {g g' : G}
mutual
theorem RV_keep (hk : ∀ b, ¬ ow b → b < w.heap.size → w'.heap[b]? = w.heap[b]?) (hs : w.heap.size ≤ w'.heap.size) (ho : ∀ b, b < w.heap.size → ¬ ow b → ¬ ow' b) :
    ∀ (x : V) (v : Value), (∀ o, o ∈ refs x → g' o = g o) → RV g w ow x v → RV g' w' ow' x v
  | .i _ _, _, _, h => h
  | .b _, _, _, h => h
  | .s _, _, _, h => h
  | .v _, _, _, h => h
  | .l n cs full, v, _, h => by
    obtain ⟨a, len, cap, e, hn, hf, h⟩ := h
    refine ⟨a, len, cap, e, hn, hf, h.imp id ?_⟩
    rintro ⟨h0, b, o, ea, hb, hl, hc⟩
    exact ⟨h0, b, o, ea, ho b hl hb, Nat.lt_of_lt_of_le hl hs, fun j hj => RCs_keep hk hs ho cs _ _ _ hb (hc j hj)⟩
  | .p cs, v, _, h => by
    obtain ⟨b, o, ea, hb, hl, hc⟩ := h
    exact ⟨b, o, ea, ho b hl hb, Nat.lt_of_lt_of_le hl hs, RCs_keep hk hs ho cs _ _ _ hb hc⟩
  | .sl o lo n sz full, v, hg, h => by
    show RSl (g' o) lo n sz full v
    rw [hg o (by simp [refs])]; exact h
  | .pt o off, v, hg, h => by
    have hg := hg o (by simp [refs])
    simp only [RV, hg]; exact h
  | .pe o j sz c, v, hg, h => by
    have hg := hg o (by simp [refs])
    simp only [RV, hg]; exact h
  | .av _ _ _, _, _, h => h
  | .mp o, v, hg, h => by
    have hg := hg o (by simp [refs])
    simp only [RV, hg]; exact h
  | .ag xs, v, hg, h => by
    obtain ⟨vs, e, h⟩ := h
    exact ⟨vs, e, RVs_keep hk hs ho xs _ (by simpa [refs] using hg) h⟩
  | .tu xs, v, hg, h => by
    obtain ⟨vs, e, h⟩ := h
    exact ⟨vs, e, RVs_keep hk hs ho xs _ (by simpa [refs] using hg) h⟩
  | .fn f xs, v, hg, h => by
    obtain ⟨vs, e, h⟩ := h
    exact ⟨vs, e, RVs_keep hk hs ho xs _ (by simpa [refs] using hg) h⟩
  | .fb f xs, v, hg, h => by
    obtain ⟨vs, e, h⟩ := h
    exact ⟨vs, e, RVs_keep hk hs ho xs _ (by simpa [refs] using hg) h⟩
theorem RVs_keep (hk : ∀ b, ¬ ow b → b < w.heap.size → w'.heap[b]? = w.heap[b]?) (hs : w.heap.size ≤ w'.heap.size) (ho : ∀ b, b < w.heap.size → ¬ ow b → ¬ ow' b) :
    ∀ (xs : List V) (vs : List Value), (∀ o, o ∈ refsL xs → g' o = g o) → RVs g w ow xs vs → RVs g' w' ow' xs vs
  | [], [], _, h => h
  | x :: xs, v :: vs, hg, h => ⟨RV_keep hk hs ho x v (fun o ho => hg o (by simp [refsL, ho])) h.1, RVs_keep hk hs ho xs vs (fun o ho => hg o (by simp [refsL, ho])) h.2⟩
  | [], _ :: _, _, h => h.elim
  | _ :: _, [], _, h => h.elim
end
end
end Go.Proofs.Ytilmhjojbolbeaa.AM

namespace Go.Proofs.Ytilmhjojbolbeaa.AM
open Go

section
variable {w : World} {ow : Nat → Prop}
@[simp] theorem shs_length (j : Int) (cs : List C) : (shs j cs).length = cs.length := by induction cs <;> simp [shs, *]
@[simp] theorem frs_length (j : Int) (cs : List C) : (frs j cs).length = cs.length := by induction cs <;> simp [frs, *]
@[simp] theorem drs_length (cs : List C) : (drs cs).length = cs.length := by induction cs <;> simp [drs, *]
mutual
theorem RC_sh (j : Int) : ∀ (c : C) (ix : Ix) (v : Value), RC w ow c (j :: ix) v → RC w ow (sh j c) ix v
  | .i _ _, _, _, h => h
  | .b _, _, _, h => h
  | .s _, _, _, h => h
  | .v _, _, _, h => h
  | .l n cs, ix, v, h => by
    obtain ⟨a, len, cap, e, hn, hcp, h⟩ := h
    refine ⟨a, len, cap, e, hn, hcp, h.imp id ?_⟩
    rintro ⟨h0, b, o, ea, hb, hl, hc⟩
    exact ⟨by simpa using h0, b, o, ea, hb, hl, fun q hq => by rw [shs_length]; exact RCs_sh j cs _ _ _ (hc q hq)⟩
  | .p cs, ix, v, h => by
    obtain ⟨b, o, ea, hb, hl, hc⟩ := h
    exact ⟨b, o, ea, hb, hl, RCs_sh j cs _ _ _ hc⟩
theorem RCs_sh (j : Int) : ∀ (cs : List C) (ix : Ix) (b o : Nat), RCs w ow cs (j :: ix) b o → RCs w ow (shs j cs) ix b o
  | [], _, _, _, h => h
  | c :: cs, ix, b, o, h => ⟨h.1.imp fun v hv => ⟨hv.1, RC_sh j c ix v hv.2⟩, RCs_sh j cs ix b (o + 1) h.2⟩
end
mutual
theorem RC_fr (lo j : Int) : ∀ (c : C) (ix : Ix) (v : Value), RC w ow c ((j + lo) :: ix) v → RC w ow (fr lo c) (j :: ix) v
  | .i _ _, _, _, h => h
  | .b _, _, _, h => h
  | .s _, _, _, h => h
  | .v _, _, _, h => h
  | .l n cs, ix, v, h => by
    obtain ⟨a, len, cap, e, hn, hcp, h⟩ := h
    refine ⟨a, len, cap, e, hn, hcp, h.imp id ?_⟩
    rintro ⟨h0, b, o, ea, hb, hl, hc⟩
    exact ⟨by simpa using h0, b, o, ea, hb, hl, fun q hq => by rw [frs_length]; exact RCs_fr lo j cs _ _ _ (hc q hq)⟩
  | .p cs, ix, v, h => by
    obtain ⟨b, o, ea, hb, hl, hc⟩ := h
    exact ⟨b, o, ea, hb, hl, RCs_fr lo j cs _ _ _ hc⟩
theorem RCs_fr (lo j : Int) : ∀ (cs : List C) (ix : Ix) (b o : Nat), RCs w ow cs ((j + lo) :: ix) b o → RCs w ow (frs lo cs) (j :: ix) b o
  | [], _, _, _, h => h
  | c :: cs, ix, b, o, h => ⟨h.1.imp fun v hv => ⟨hv.1, RC_fr lo j c ix v hv.2⟩, RCs_fr lo j cs ix b (o + 1) h.2⟩
end
mutual
theorem RC_dr (j : Int) : ∀ (c : C) (ix : Ix) (v : Value), RC w ow c ix v → RC w ow (dr c) (j :: ix) v
  | .i _ _, _, _, h => h
  | .b _, _, _, h => h
  | .s _, _, _, h => h
  | .v _, _, _, h => h
  | .l n cs, ix, v, h => by
    obtain ⟨a, len, cap, e, hn, hcp, h⟩ := h
    refine ⟨a, len, cap, e, hn, hcp, h.imp id ?_⟩
    rintro ⟨h0, b, o, ea, hb, hl, hc⟩
    exact ⟨by simpa using h0, b, o, ea, hb, hl, fun q hq => by rw [drs_length]; exact RCs_dr j cs _ _ _ (hc q hq)⟩
  | .p cs, ix, v, h => by
    obtain ⟨b, o, ea, hb, hl, hc⟩ := h
    exact ⟨b, o, ea, hb, hl, RCs_dr j cs _ _ _ hc⟩
theorem RCs_dr (j : Int) : ∀ (cs : List C) (ix : Ix) (b o : Nat), RCs w ow cs ix b o → RCs w ow (drs cs) (j :: ix) b o
  | [], _, _, _, h => h
  | c :: cs, ix, b, o, h => ⟨h.1.imp fun v hv => ⟨hv.1, RC_dr j c ix v hv.2⟩, RCs_dr j cs ix b (o + 1) h.2⟩
end
/-- t looks at the first place alone -/
def Head (t : Ix → Bool) : Prop := ∀ j ix ix', t (j :: ix) = t (j :: ix')
theorem mixs_length {t : Ix → Bool} : ∀ {cs ds es : List C}, mixs t cs ds = some es → es.length = cs.length ∧ es.length = ds.length
  | [], [], es, h => by simp [mixs] at h; subst h; simp
  | c :: cs, d :: ds, es, h => by
    simp only [mixs] at h
    split at h
    · rename_i x xs h1 h2
      cases h
      have := mixs_length h2
      simp [this.1]; omega
    · cases h
  | [], _ :: _, es, h => by simp [mixs] at h
  | _ :: _, [], es, h => by simp [mixs] at h
mutual
theorem RC_mix {t : Ix → Bool} (ht : Head t) : ∀ (c d e : C), mix t c d = some e → ∀ (j : Int) (ix : Ix) (v : Value), (t (j :: ix) = true → RC w ow c (j :: ix) v) → (t (j :: ix) = false → RC w ow d (j :: ix) v) → RC w ow e (j :: ix) v
  | .i k f, d, e, h, j, ix, v, h1, h2 => by
    cases d <;> simp only [mix] at h <;> try (cases h; done)
    split at h <;> cases h
    rename_i k' g hk
    obtain rfl := of_decide_eq_true hk
    cases ht' : t (j :: ix)
    · simpa [RC, ht'] using h2 ht'
    · simpa [RC, ht'] using h1 ht'
  | .b f, d, e, h, j, ix, v, h1, h2 => by
    cases d <;> simp only [mix] at h <;> cases h
    cases ht' : t (j :: ix)
    · simpa [RC, ht'] using h2 ht'
    · simpa [RC, ht'] using h1 ht'
  | .s f, d, e, h, j, ix, v, h1, h2 => by
    cases d <;> simp only [mix] at h <;> cases h
    cases ht' : t (j :: ix)
    · simpa [RC, ht'] using h2 ht'
    · simpa [RC, ht'] using h1 ht'
  | .l n [], d, e, h, j, ix, v, h1, h2 => by
    cases d <;> simp only [mix] at h <;> cases h
    cases ht' : t (j :: ix)
    · obtain ⟨a, len, cap, e, hn, hcp, h⟩ := h2 ht'
      exact ⟨a, len, cap, e, by simpa [ht'] using hn, hcp, h⟩
    · obtain ⟨a, len, cap, e, hn, hcp, h⟩ := h1 ht'
      exact ⟨a, len, cap, e, by simpa [ht'] using hn, hcp, .inl (by simpa using h)⟩
  | .l n (c :: cs), d, e, h, j, ix, v, h1, h2 => by
    cases d <;> try (simp [mix] at h; done)
    rename_i m ds
    cases ds with
    | nil =>
      simp only [mix] at h
      cases h
      cases ht' : t (j :: ix)
      · obtain ⟨a, len, cap, e, hn, hcp, h⟩ := h2 ht'
        exact ⟨a, len, cap, e, by simpa [ht'] using hn, hcp, .inl (by simpa using h)⟩
      · obtain ⟨a, len, cap, e, hn, hcp, h⟩ := h1 ht'
        exact ⟨a, len, cap, e, by simpa [ht'] using hn, hcp, h⟩
    | cons d ds =>
      simp only [mix] at h
      split at h <;> cases h
      rename_i x xs hx hxs
      have hl := mixs_length hxs
      cases ht' : t (j :: ix)
      · obtain ⟨a, len, cap, e, hn, hcp, h⟩ := h2 ht'
        refine ⟨a, len, cap, e, by simpa [ht'] using hn, hcp, h.imp id ?_⟩
        rintro ⟨h0, b, o, ea, hb, hl', hc⟩
        refine ⟨by simp, b, o, ea, hb, hl', fun q hq => ?_⟩
        have hc := hc q hq
        have hf : t (j :: (ix ++ [(q : Int)])) = false := (ht j _ ix).trans ht'
        have he : (x :: xs).length = (d :: ds).length := by simp [hl.2]
        rw [he]
        exact ⟨hc.1.imp fun v hv => ⟨hv.1, RC_mix ht c d x hx j (ix ++ [(q : Int)]) v (fun h => by rw [hf] at h; cases h) (fun _ => hv.2)⟩, RCs_mix ht cs ds xs hxs j (ix ++ [(q : Int)]) _ _ (fun h => by rw [hf] at h; cases h) (fun _ => hc.2)⟩
      · obtain ⟨a, len, cap, e, hn, hcp, h⟩ := h1 ht'
        refine ⟨a, len, cap, e, by simpa [ht'] using hn, hcp, h.imp id ?_⟩
        rintro ⟨h0, b, o, ea, hb, hl', hc⟩
        refine ⟨by simp, b, o, ea, hb, hl', fun q hq => ?_⟩
        have hc := hc q hq
        have hf : t (j :: (ix ++ [(q : Int)])) = true := (ht j _ ix).trans ht'
        have he : (x :: xs).length = (c :: cs).length := by simp [hl.1]
        rw [he]
        exact ⟨hc.1.imp fun v hv => ⟨hv.1, RC_mix ht c d x hx j (ix ++ [(q : Int)]) v (fun _ => hv.2) (fun h => by rw [hf] at h; cases h)⟩, RCs_mix ht cs ds xs hxs j (ix ++ [(q : Int)]) _ _ (fun _ => hc.2) (fun h => by rw [hf] at h; cases h)⟩
  | .p _, d, e, h, _, _, _, _, _ => by cases d <;> simp [mix] at h
  | .v _, d, e, h, _, _, _, _, _ => by cases d <;> simp [mix] at h
theorem RCs_mix {t : Ix → Bool} (ht : Head t) : ∀ (cs ds es : List C), mixs t cs ds = some es → ∀ (j : Int) (ix : Ix) (b o : Nat), (t (j :: ix) = true → RCs w ow cs (j :: ix) b o) → (t (j :: ix) = false → RCs w ow ds (j :: ix) b o) → RCs w ow es (j :: ix) b o
  | [], [], es, h, _, _, _, _, _, _ => by simp [mixs] at h; subst h; trivial
  | c :: cs, d :: ds, es, h, j, ix, b, o, h1, h2 => by
    simp only [mixs] at h
    split at h <;> cases h
    rename_i x xs hx hxs
    cases ht' : t (j :: ix)
    · have hc := h2 ht'
      exact ⟨hc.1.imp fun v hv => ⟨hv.1, RC_mix ht c d x hx j ix v (fun h => by rw [ht'] at h; cases h) (fun _ => hv.2)⟩, RCs_mix ht cs ds xs hxs j ix _ _ (fun h => by rw [ht'] at h; cases h) (fun _ => hc.2)⟩
    · have hc := h1 ht'
      exact ⟨hc.1.imp fun v hv => ⟨hv.1, RC_mix ht c d x hx j ix v (fun _ => hv.2) (fun h => by rw [ht'] at h; cases h)⟩, RCs_mix ht cs ds xs hxs j ix _ _ (fun _ => hc.2) (fun h => by rw [ht'] at h; cases h)⟩
  | [], _ :: _, es, h, _, _, _, _, _, _ => by simp [mixs] at h
  | _ :: _, [], es, h, _, _, _, _, _, _ => by simp [mixs] at h
end
variable {g : G} {H : (α : Type) → α → α}
theorem RV_val (hH : ∀ α x, H α x = x) {c : C} {v : Value} (h : RC w ow c [] v) : RV g w ow (val H c) v := by
  cases c with
  | i k f => simpa [val, RV, RC, hH] using h
  | b f => simpa [val, RV, RC, hH] using h
  | s f => simpa [val, RV, RC, hH] using h
  | v u => exact h.1
  | p cs => exact h
  | l n cs =>
    obtain ⟨a, len, cap, e, hn, hcp, h⟩ := h
    exact ⟨a, len, cap, e, by rw [hH]; exact hn, ⟨hcp, fun h => (by cases h)⟩, h⟩
theorem RC_toC {x : V} {c : C} {v : Value} (hc : toC x = some c) (h : RV g w ow x v) : RC w ow c [] v := by
  cases x
  case v u =>
    obtain rfl : v = u := h
    cases v <;> simp only [toC] at hc <;> cases hc <;> exact ⟨rfl, rfl⟩
  all_goals simp only [toC] at hc <;> cases hc
  case i => exact h
  case b => exact h
  case s => exact h
  case p => exact h
  case l n cs f =>
    obtain ⟨a, len, cap, e, hn, hcp, h⟩ := h
    exact ⟨a, len, cap, e, hn, hcp.1, h⟩
theorem RV_ofV (v : Value) : RV g w ow (ofV v) v := by
  unfold ofV
  split
  · rfl
  · rfl
  · simp [RV]
  · exact ⟨none, 0, 0, rfl, rfl, ⟨Nat.le_refl _, fun _ => rfl⟩, .inl rfl⟩
  · rfl
end
end Go.Proofs.Ytilmhjojbolbeaa.AM

namespace Go.Proofs.Ytilmhjojbolbeaa.AM
open Go

section
variable {w : World} {ow ow' : Nat → Prop} {g : G}
theorem RVs_len : ∀ {xs : List V} {vs : List Value}, RVs g w ow xs vs → xs.length = vs.length
  | [], [], _ => rfl
  | _ :: _, _ :: _, h => by simp [RVs_len h.2]
  | [], _ :: _, h => h.elim
  | _ :: _, [], h => h.elim
theorem RVs_at : ∀ {xs : List V} {vs : List Value}, RVs g w ow xs vs → ∀ (i : Nat) (x : V), xs[i]? = some x → ∃ v, vs[i]? = some v ∧ RV g w ow x v
  | [], [], _, i, x, h => by simp at h
  | x :: xs, v :: vs, h, 0, y, hy => by simp at hy; subst hy; exact ⟨v, by simp, h.1⟩
  | x :: xs, v :: vs, h, i + 1, y, hy => by simpa using RVs_at h.2 i y (by simpa using hy)
  | [], _ :: _, h, _, _, _ => h.elim
  | _ :: _, [], h, _, _, _ => h.elim
theorem dp_eq {α : Type} : ∀ (n : Nat) (l : List α), dp n l = l.drop n
  | 0, l => by simp [dp]
  | n + 1, [] => by simp [dp]
  | n + 1, x :: r => by simpa [dp] using dp_eq n r
theorem tk_eq {α : Type} : ∀ (n : Nat) (l : List α), tk n l = l.take n
  | 0, l => by simp [tk]
  | n + 1, [] => by simp [tk]
  | n + 1, x :: r => by simpa [tk] using tk_eq n r
theorem RVs_drop : ∀ (n : Nat) {xs : List V} {vs : List Value}, RVs g w ow xs vs → RVs g w ow (dp n xs) (vs.drop n)
  | 0, _, _, h => by simpa [dp] using h
  | n + 1, [], [], _ => by simp [dp, RVs]
  | n + 1, x :: xs, v :: vs, h => by simpa [dp] using RVs_drop n h.2
  | n + 1, [], _ :: _, h => h.elim
  | n + 1, _ :: _, [], h => h.elim
theorem RVs_take : ∀ (n : Nat) {xs : List V} {vs : List Value}, RVs g w ow xs vs → RVs g w ow (tk n xs) (vs.take n)
  | 0, _, _, h => by simp [tk, RVs]
  | n + 1, [], [], _ => by simp [tk, RVs]
  | n + 1, x :: xs, v :: vs, h => by simpa [tk] using ⟨h.1, RVs_take n h.2⟩
  | n + 1, [], _ :: _, h => h.elim
  | n + 1, _ :: _, [], h => h.elim
/-- cells that are values, as columns -/
theorem RCs_toCs {b : Nat} : ∀ {xs : List V} {vs : List Value} {cs : List C} (o : Nat), toCs xs = some cs → RVs g w ow xs vs → (∀ i v, vs[i]? = some v → w.cell? ⟨b, o + i, none⟩ = some v) → RCs w ow cs [] b o
  | [], [], cs, o, hc, _, _ => by simp [toCs] at hc; subst hc; trivial
  | x :: xs, v :: vs, cs, o, hc, h, hw => by
    simp only [toCs] at hc
    split at hc <;> cases hc
    rename_i c cs h1 h2
    exact ⟨⟨v, by simpa using hw 0 v (by simp), RC_toC h1 h.1⟩, RCs_toCs (o + 1) h2 h.2 (fun i u hu => by have := hw (i + 1) u (by simpa using hu); rw [show o + 1 + i = o + (i + 1) by omega]; exact this)⟩
  | [], _ :: _, _, _, _, h, _ => h.elim
  | _ :: _, [], _, _, _, h, _ => h.elim
theorem RCs_weak (ho : ∀ b, ¬ ow b → ¬ ow' b) (cs : List C) (ix : Ix) (b o : Nat) (h : RCs w ow cs ix b o) : RCs w ow' cs ix b o :=
  RCs_keep' (fun _ _ _ => rfl) (Nat.le_refl _) (fun b _ hb => ho b hb) cs ix b o (fun _ _ _ _ h => h) h
theorem RV_weak (ho : ∀ b, ¬ ow b → ¬ ow' b) (x : V) (v : Value) (h : RV g w ow x v) : RV g w ow' x v :=
  RV_keep (fun _ _ _ => rfl) (Nat.le_refl _) (fun b _ hb => ho b hb) x v (fun _ _ => rfl) h
theorem RVs_weak (ho : ∀ b, ¬ ow b → ¬ ow' b) (xs : List V) (vs : List Value) (h : RVs g w ow xs vs) : RVs g w ow' xs vs :=
  RVs_keep (fun _ _ _ => rfl) (Nat.le_refl _) (fun b _ hb => ho b hb) xs vs (fun _ _ => rfl) h
theorem drop_shs (j : Int) : ∀ (c : Nat) (cs : List C), dp c (shs j cs) = shs j (cs.drop c)
  | 0, cs => by simp [dp]
  | c + 1, [] => by simp [dp, shs]
  | c + 1, x :: cs => by simpa [dp, shs] using drop_shs j c cs
theorem RCs_drop : ∀ (c : Nat) (cs : List C) (ix : Ix) (b o : Nat), RCs w ow cs ix b o → RCs w ow (cs.drop c) ix b (o + c)
  | 0, cs, ix, b, o, h => by simpa using h
  | c + 1, [], ix, b, o, h => by simp [RCs]
  | c + 1, x :: cs, ix, b, o, h => by
    have := RCs_drop c cs ix b (o + 1) h.2
    rw [show o + 1 + c = o + (c + 1) by omega] at this
    simpa using this
theorem blk_size {b : Nat} {o : Obj} (h : w.heap[b]? = some o) : b < w.heap.size := (Array.getElem?_eq_some_iff.1 h).1
/-- what is lent reads as memory that stays -/
theorem bor_ok {F : Sto} (hF : ∀ i o, look i F = some o → RO (g i) (RVs g w ow) w ow o) (hd : ∀ i, (look i F).isSome = true → (g i).vi = false → ¬ ow' (g i).bl) (ho : ∀ b, ¬ ow b → ¬ ow' b) :
    ∀ (n : Nat) (x : V) (v : Value), RV g w ow x v → RV g w ow' (bor F n x) v := by
  intro n
  induction n with
  | zero => intro x v h; simp only [bor]; exact RV_weak ho x v h
  | succ n ih =>
    have ihL : ∀ (xs : List V) (vs : List Value), RVs g w ow xs vs → RVs g w ow' (bor.borL F n xs) vs := by
      intro xs
      induction xs with
      | nil => intro vs h; cases vs with | nil => simp [bor.borL, RVs] | cons => exact h.elim
      | cons x xs ihx => intro vs h; cases vs with | nil => exact h.elim | cons v vs => simp only [bor.borL, RVs]; exact ⟨ih x v h.1, ihx vs h.2⟩
    intro x v h
    cases x with
    | i => simp only [bor]; exact h
    | b => simp only [bor]; exact h
    | s => simp only [bor]; exact h
    | v => simp only [bor]; exact h
    | l => simp only [bor]; exact RV_weak ho _ v h
    | p => simp only [bor]; exact RV_weak ho _ v h
    | mp => simp only [bor]; exact h
    | av => simp only [bor]; exact h
    | ag xs => simp only [bor]; obtain ⟨vs, e, h⟩ := h; exact ⟨vs, e, ihL _ _ h⟩
    | tu xs => simp only [bor]; obtain ⟨vs, e, h⟩ := h; exact ⟨vs, e, ihL _ _ h⟩
    | fn f xs => simp only [bor]; obtain ⟨vs, e, h⟩ := h; exact ⟨vs, e, ihL _ _ h⟩
    | fb f xs => simp only [bor]; obtain ⟨vs, e, h⟩ := h; exact ⟨vs, e, ihL _ _ h⟩
    | sl o lo m sz full =>
      simp only [bor]
      split
      · rename_i k cs e hl
        obtain ⟨a, len, cap, rfl, rfl, hc⟩ := h
        have hR := hF o _ hl
        obtain ⟨hk, hsz, hR⟩ := hR
        rcases hc with ⟨rfl, rfl, -⟩ | ⟨h1, l, rfl, rfl, hcap, hln, rfl, hf⟩
        · exact ⟨a, 0, 0, rfl, rfl, ⟨Nat.le_refl _, fun h => rfl⟩, .inl rfl⟩
        · refine ⟨_, len, cap, rfl, rfl, ⟨hcap, fun h => by rw [if_pos h] at hf; exact hf⟩, ?_⟩
          rcases hR with ⟨h2, _⟩ | ⟨_, ⟨c, hb, hcs, hle⟩, hR⟩
          · rw [h1] at h2; cases h2
          · by_cases h0 : len = 0
            · exact .inl h0
            · obtain ⟨hsz, hs⟩ := hsz.resolve_left (by omega)
              refine .inr ⟨by rw [frs_length, hsz]; exact hs, _, _, rfl, hd o (by rw [hl]; rfl) h1, blk_size hb, fun j hj => ?_⟩
              have := RCs_weak ho _ _ _ _ (hR (j + l) (by omega))
              rw [frs_length, hsz, show l * (g o).sz + j * (g o).sz = (j + l) * (g o).sz by rw [Nat.add_mul, Nat.add_comm]]
              exact RCs_fr _ _ cs [] _ _ (by simpa using this)
      · exact h
    | pt o off =>
      simp only [bor]
      split
      · rename_i xs e hl
        split
        · rename_i ds hds
          obtain ⟨h1, vs, hb, hv⟩ := hF o _ hl
          obtain ⟨rfl, -⟩ := h
          refine ⟨_, _, rfl, hd o (by rw [hl]; rfl) h1, blk_size hb, ?_⟩
          refine RCs_toCs off hds (ihL _ _ (RVs_drop off hv)) (fun i v hi => ?_)
          rw [blk_cell hb]
          simpa using hi
        · exact h
      · exact h
    | pe o j sz c =>
      simp only [bor]
      split
      · rename_i k cs e hl
        obtain ⟨i, rfl, rfl, h1, h2, rfl⟩ := h
        obtain ⟨hk, hsz, hR⟩ := hF o _ hl
        rcases hR with ⟨h3, _⟩ | ⟨_, ⟨c', hb, hcs, hle⟩, hR⟩
        · rw [h1] at h3; cases h3
        · refine ⟨_, _, rfl, hd o (by rw [hl]; rfl) h1, blk_size hb, ?_⟩
          rw [drop_shs]
          exact RCs_sh _ _ _ _ _ (RCs_drop c _ _ _ _ (RCs_weak ho _ _ _ _ (hR i h2)))
      · exact h
end
end Go.Proofs.Ytilmhjojbolbeaa.AM

namespace Go.Proofs.Ytilmhjojbolbeaa.AM
open Go

/-! ### looking up -/
theorem beq_iff {a b : Nat} : Nat.beq a b = true ↔ a = b := by simp
theorem beq_no {a b : Nat} (h : Nat.beq a b = false) : a ≠ b := fun e => by subst e; simp at h
section
variable {α : Type}
theorem look_cons (k j : Nat) (x : α) (r : List (Nat × α)) : look k ((j, x) :: r) = if j = k then some x else look k r := by
  simp only [look]
  split
  · rename_i h; rw [if_pos (beq_iff.1 h)]
  · rename_i h; rw [if_neg (beq_no h)]
theorem mem_iff (k : Nat) (l : List Nat) : mem k l = true ↔ k ∈ l := by
  induction l with
  | nil => simp [mem]
  | cons j r ih =>
    simp only [mem]
    split
    · rename_i h; simp [beq_iff.1 h]
    · rename_i h; simp [ih, (beq_no h).symm]
theorem mem_no {k : Nat} {l : List Nat} (h : mem k l = false) : k ∉ l := fun hk => by rw [(mem_iff k l).2 hk] at h; cases h
theorem look_minus (i : Nat) (σ : Sto) (l : List Nat) : look i (minus σ l) = if i ∈ l then none else look i σ := by
  induction σ with
  | nil => simp [minus, look]
  | cons p r ih =>
    obtain ⟨j, o⟩ := p
    simp only [minus]
    split
    · rename_i h
      have h := (mem_iff _ _).1 h
      rw [ih, look_cons]
      by_cases e : j = i
      · subst e; simp [h]
      · rw [if_neg e]
    · rename_i h
      have h := mem_no h
      rw [look_cons, look_cons, ih]
      by_cases e : j = i
      · subst e; simp [h]
      · rw [if_neg e, if_neg e]
theorem look_only (i : Nat) (σ : Sto) (l : List Nat) : look i (only σ l) = if i ∈ l then look i σ else none := by
  induction σ with
  | nil => simp [only, look]
  | cons p r ih =>
    obtain ⟨j, o⟩ := p
    simp only [only]
    split
    · rename_i h
      have h := (mem_iff _ _).1 h
      rw [look_cons, look_cons, ih]
      by_cases e : j = i
      · subst e; simp [h]
      · rw [if_neg e, if_neg e]
    · rename_i h
      have h := mem_no h
      rw [ih, look_cons]
      by_cases e : j = i
      · subst e; simp [h]
      · rw [if_neg e]
theorem look_borS (τ : Sto) (i : Nat) (σ : Sto) : look i (borS τ σ) = (look i σ).map (borO τ) := by
  induction σ with
  | nil => simp [borS, look]
  | cons p r ih =>
    obtain ⟨j, o⟩ := p
    simp only [borS]
    rw [look_cons, look_cons, ih]
    split <;> simp
theorem look_borA (τ : Sto) (t : Nat) (A : List (Nat × V)) : look t (borA τ A) = (look t A).map (bor τ 4) := by
  induction A with
  | nil => simp [borA, look]
  | cons p r ih =>
    obtain ⟨j, o⟩ := p
    simp only [borA]
    rw [look_cons, look_cons, ih]
    split <;> simp
end
section
variable {w : World} {ow ow' : Nat → Prop} {g : G}
theorem borL_ok {F : Sto} (hF : ∀ i o, look i F = some o → RO (g i) (RVs g w ow) w ow o) (hd : ∀ i, (look i F).isSome = true → (g i).vi = false → ¬ ow' (g i).bl) (ho : ∀ b, ¬ ow b → ¬ ow' b) (n : Nat) :
    ∀ (xs : List V) (vs : List Value), RVs g w ow xs vs → RVs g w ow' (bor.borL F n xs) vs := by
  intro xs
  induction xs with
  | nil => intro vs h; cases vs with | nil => simp [bor.borL, RVs] | cons => exact h.elim
  | cons x xs ihx => intro vs h; cases vs with | nil => exact h.elim | cons v vs => simp only [bor.borL, RVs]; exact ⟨bor_ok hF hd ho n x v h.1, ihx vs h.2⟩
theorem borO_ok {F : Sto} (hF : ∀ i o, look i F = some o → RO (g i) (RVs g w ow) w ow o) (hd : ∀ i, (look i F).isSome = true → (g i).vi = false → ¬ ow' (g i).bl) (ho : ∀ b, ¬ ow b → ¬ ow' b) {k : GI} {o : O}
    (h : RO k (RVs g w ow) w ow o) : RO k (RVs g w ow') w ow' (borO F o) := by
  cases o with
  | st xs e => obtain ⟨h1, vs, hb, hv⟩ := h; exact ⟨h1, vs, hb, borL_ok hF hd ho 4 xs _ hv⟩
  | rw l rf st pe xs vs => obtain ⟨h1, h0, hb, hv⟩ := h; exact ⟨h1, h0, hb, borL_ok hF hd ho 4 xs _ hv⟩
  | ms S => exact h
  | ar n cs e => obtain ⟨h1, h2, h3⟩ := h; exact ⟨h1, h2, h3.imp id fun ⟨a, b, c⟩ => ⟨a, b, fun j hj => RCs_weak ho _ _ _ _ (c j hj)⟩⟩
theorem own_minus {σ : Sto} {l : List Nat} {b : Nat} : mine (minus σ l) g b ↔ ∃ i, i ∉ l ∧ (look i σ).isSome = true ∧ (g i).vi = false ∧ (g i).bl = b := by
  constructor
  · rintro ⟨i, h, h1, h2⟩
    rw [look_minus] at h
    by_cases hi : i ∈ l
    · rw [if_pos hi] at h; cases h
    · rw [if_neg hi] at h; exact ⟨i, hi, h, h1, h2⟩
  · rintro ⟨i, hi, h, h1, h2⟩
    exact ⟨i, by rw [look_minus, if_neg hi]; exact h, h1, h2⟩
theorem own_borS {τ σ : Sto} {b : Nat} : mine (borS τ σ) g b ↔ mine σ g b := by simp [mine, look_borS]
/-- objects that stay from here on as they are -/
theorem frz_ok {w0 : World} {S0 : Fr} {N : Nat} {s : S} {tmps : Array Value} (l : List Nat) (h : Rel w0 S0 N g s tmps w) : Rel w0 S0 N g (frz l s) tmps w := by
  have hsub0 : ∀ b, mine (borS (only s.σ l) (minus s.σ l)) g b → mine s.σ g b := fun b hb => by
    obtain ⟨i, -, h1, h2, h3⟩ := own_minus.1 (own_borS.1 hb)
    exact ⟨i, h1, h2, h3⟩
  have hsub : ∀ b, own S0 (borS (only s.σ l) (minus s.σ l)) g b → own S0 s.σ g b := fun b hb => hb.imp_right (hsub0 b)
  have ho : ∀ b, ¬ own S0 s.σ g b → ¬ own S0 (borS (only s.σ l) (minus s.σ l)) g b := fun b hn hb => hn (hsub b hb)
  have hF : ∀ i o, look i (only s.σ l) = some o → RO (g i) (RVs g w (own S0 s.σ g)) w (own S0 s.σ g) o := fun i o hi => by
    rw [look_only] at hi
    split at hi
    · exact h.ob.objs i o hi
    · cases hi
  have hd : ∀ i, (look i (only s.σ l)).isSome = true → (g i).vi = false → ¬ own S0 (borS (only s.σ l) (minus s.σ l)) g (g i).bl := fun i hi hv hb => by
    rw [look_only] at hi
    have hmi : mine s.σ g (g i).bl := by
      by_cases hil : i ∈ l
      · rw [if_pos hil] at hi; exact ⟨i, hi, hv, rfl⟩
      · rw [if_neg hil] at hi; cases hi
    replace hb := hb.resolve_left (h.apart hmi)
    obtain ⟨j, hj, h1, h2, h3⟩ := own_minus.1 (own_borS.1 hb)
    by_cases hil : i ∈ l
    · rw [if_pos hil] at hi
      have := h.ob.inj i j hi h1 hv h2 h3.symm
      subst this; exact hj hil
    · rw [if_neg hil] at hi; cases hi
  refine ⟨⟨fun i o hi => ?_, fun i j hi hj => ?_⟩, fun t x hx => ?_, h.sz, h.kp, fun b hb => h.fr b (hsub0 b hb), fun i hi hs => ?_, h.nx, h.dj⟩
  · simp only [frz] at hi ⊢
    rw [look_borS, look_minus] at hi
    split at hi
    · cases hi
    · obtain ⟨o', ho', rfl⟩ := Option.map_eq_some_iff.1 hi
      exact borO_ok hF hd ho (h.ob.objs i o' ho')
  · simp only [frz] at hi hj
    rw [look_borS, look_minus] at hi hj
    split at hi
    · cases hi
    · split at hj
      · cases hj
      · exact h.ob.inj i j (by simpa using hi) (by simpa using hj)
  · simp only [frz] at hx ⊢
    rw [look_borA] at hx
    obtain ⟨y, hy, rfl⟩ := Option.map_eq_some_iff.1 hx
    exact bor_ok hF hd ho 4 y _ (h.ra t y hy)
  · simp only [frz] at hs
    rw [look_borS, look_minus] at hs
    refine h.pin i hi ?_
    split at hs
    · cases hs
    · simpa using hs

/-! ### the same said of other names -/
mutual
theorem ceq_eq : ∀ {c d : C}, ceq c d → c = d
  | .i _ _, .i _ _, h => by obtain ⟨rfl, rfl⟩ := h; rfl
  | .b _, .b _, h => by cases h; rfl
  | .s _, .s _, h => by cases h; rfl
  | .l _ _, .l _ _, h => by obtain ⟨rfl, h⟩ := h; rw [ceqs_eq h]
  | .p _, .p _, h => by rw [ceqs_eq h]
  | .v _, .v _, h => by cases h; rfl
theorem ceqs_eq : ∀ {cs ds : List C}, ceqs cs ds → cs = ds
  | [], [], _ => rfl
  | _ :: _, _ :: _, h => by rw [ceq_eq h.1, ceqs_eq h.2]
  | [], _ :: _, h => h.elim
  | _ :: _, [], h => h.elim
end
/-- what the names of the target stand for -/
def gOf (ρ : List (Nat × Option Nat)) (g : G) : G := fun j => match look j ρ with
  | some (some i) => g i
  | some none => ⟨0, 0, true, 0, 0⟩
  | none => g j
theorem nam_some {ρ : List (Nat × Option Nat)} {j i : Nat} (h : nam ρ j (some i)) : gOf ρ g j = g i := by
  unfold nam at h
  unfold gOf
  split at h
  · rename_i p hp
    rw [hp]
    split at h
    · rename_i a b e
      split at h
      · rename_i hb; obtain rfl := beq_iff.1 hb; cases e; rfl
      · exact h.elim
    · rename_i e; cases e
    · exact h.elim
  · exact h.elim
theorem nam_none {ρ : List (Nat × Option Nat)} {j : Nat} (h : nam ρ j none) : gOf ρ g j = ⟨0, 0, true, 0, 0⟩ := by
  unfold nam at h
  unfold gOf
  split at h
  · rename_i p hp
    rw [hp]
    split at h
    · rename_i e; cases e
    · rfl
    · exact h.elim
  · exact h.elim
mutual
theorem ve_ok {ρ : List (Nat × Option Nat)} (ho : ∀ b, ¬ ow b → ¬ ow' b) : ∀ (x y : V) (v : Value), ve ρ x y → RV g w ow x v → RV (gOf ρ g) w ow' y v
  | .i _ _, .i _ _, v, h, hv => by obtain ⟨rfl, rfl⟩ := h; exact hv
  | .b _, .b _, v, h, hv => by cases h; exact hv
  | .s _, .s _, v, h, hv => by cases h; exact hv
  | .v _, .v _, v, h, hv => by cases h; exact hv
  | .l n cs f, .l n' cs' f', v, h, hv => by
    obtain ⟨rfl, hf, hc⟩ := h
    obtain ⟨a, len, cap, e, hn, hcap, hv⟩ := hv
    refine ⟨a, len, cap, e, hn, ⟨hcap.1, fun h => hcap.2 (by subst h; revert hf; cases f <;> simp [feq])⟩, ?_⟩
    rcases hc with h0 | hc
    · exact .inl (by omega)
    · obtain rfl := ceqs_eq hc
      exact hv.imp id fun ⟨h0, b, o, ea, hb, hl, hc⟩ => ⟨h0, b, o, ea, ho b hb, hl, fun j hj => RCs_weak ho _ _ _ _ (hc j hj)⟩
  | .p cs, .p cs', v, h, hv => by
    obtain rfl := ceqs_eq (show ceqs cs cs' from h)
    obtain ⟨b, o, ea, hb, hl, hc⟩ := hv
    exact ⟨b, o, ea, ho b hb, hl, RCs_weak ho _ _ _ _ hc⟩
  | .sl o lo n sz f, .sl o' lo' n' sz' f', v, h, hv => by
    obtain ⟨rfl, rfl, rfl, rfl, h⟩ := h
    show RSl (gOf ρ g o') _ _ _ _ _
    rw [nam_some h]; exact hv
  | .l n cs f, .sl o' lo' n' sz' f', v, h, hv => by
    obtain ⟨h0, rfl, rfl, rfl, rfl, h⟩ := h
    obtain ⟨a, len, cap, e, hn, hcap, hv⟩ := hv
    have hl : len = 0 := by omega
    subst hl
    have := hcap.2 rfl
    subst this
    show RSl (gOf ρ g o') _ _ _ _ _
    rw [nam_none h]
    exact ⟨a, 0, 0, e, rfl, .inl ⟨rfl, rfl, fun h => by cases h⟩⟩
  | .pt o off, .pt o' off', v, h, hv => by
    obtain ⟨rfl, h⟩ := h
    simp only [RV, nam_some h]; exact hv
  | .pe o j sz c, .pe o' j' sz' c', v, h, hv => by
    obtain ⟨rfl, rfl, rfl, h⟩ := h
    simp only [RV, nam_some h]; exact hv
  | .av _ _ _, .av _ _ _, v, h, hv => by obtain ⟨⟨rfl, rfl⟩, rfl⟩ := h; exact hv
  | .mp o, .mp o', v, h, hv => by
    simp only [RV, nam_some (show nam ρ o' (some o) from h)]; exact hv
  | .ag xs, .ag ys, v, h, hv => by obtain ⟨vs, e, hv⟩ := hv; exact ⟨vs, e, ves_ok ho xs ys _ h hv⟩
  | .tu xs, .tu ys, v, h, hv => by obtain ⟨vs, e, hv⟩ := hv; exact ⟨vs, e, ves_ok ho xs ys _ h hv⟩
  | .fn f xs, .fn f' ys, v, h, hv => by
    obtain ⟨rfl, h⟩ := h
    obtain ⟨vs, e, hv⟩ := hv; exact ⟨vs, e, ves_ok ho xs ys _ h hv⟩
  | .fb f xs, .fb f' ys, v, h, hv => by
    obtain ⟨rfl, h⟩ := h
    obtain ⟨vs, e, hv⟩ := hv; exact ⟨vs, e, ves_ok ho xs ys _ h hv⟩
theorem ves_ok {ρ : List (Nat × Option Nat)} (ho : ∀ b, ¬ ow b → ¬ ow' b) : ∀ (xs ys : List V) (vs : List Value), ves ρ xs ys → RVs g w ow xs vs → RVs (gOf ρ g) w ow' ys vs
  | [], [], [], _, _ => trivial
  | [], [], _ :: _, _, hv => hv.elim
  | x :: xs, y :: ys, v :: vs, h, hv => ⟨ve_ok ho x y v h.1 hv.1, ves_ok ho xs ys vs h.2 hv.2⟩
  | [], _ :: _, _, h, _ => h.elim
  | _ :: _, [], _, h, _ => h.elim
  | _ :: _, _ :: _, [], _, hv => hv.elim
end
theorem ae_look {ρ : List (Nat × Option Nat)} {A : List (Nat × V)} : ∀ {B : List (Nat × V)}, ae ρ A B → ∀ (t : Nat) (y : V), look t B = some y → ∃ x, look t A = some x ∧ ve ρ x y
  | [], _, t, y, h => by simp [look] at h
  | (u, z) :: B, hB, t, y, h => by
    rw [look_cons] at h
    split at h
    · rename_i e; subst e; cases h
      have h1 := hB.1
      split at h1
      · rename_i x hx; exact ⟨x, hx, h1⟩
      · exact h1.elim
    · exact ae_look hB.2 t y h
theorem se_look {ρ : List (Nat × Option Nat)} {σ : Sto} : ∀ {τ : Sto}, se ρ σ τ → ∀ (j : Nat) (o : O), look j τ = some o →
    (∃ i o', look j ρ = some (some i) ∧ look i σ = some o' ∧ oe ρ o' o) ∨ (look j ρ = some none ∧ ∃ cs e, o = .ar 0 cs e)
  | [], _, t, y, h => by simp [look] at h
  | (u, z) :: B, hB, t, y, h => by
    rw [look_cons] at h
    split at h
    · rename_i e; subst e; cases h
      have h1 := hB.1
      split at h1
      · rename_i i hi
        split at h1
        · rename_i o' ho'; exact .inl ⟨i, o', hi, ho', h1⟩
        · exact h1.elim
      · rename_i hi
        cases z with
        | st => exact h1.elim
        | rw => exact h1.elim
        | ms => exact h1.elim
        | ar n cs e => obtain rfl : n = 0 := h1; exact .inr ⟨hi, cs, e, rfl⟩
      · exact h1.elim
    · exact se_look hB.2 t y h
theorem img_mem {ρ : List (Nat × Option Nat)} : ∀ {j i : Nat}, look j ρ = some (some i) → i ∈ img ρ := by
  induction ρ with
  | nil => intro j i h; simp [look] at h
  | cons p r ih =>
    intro j i h
    obtain ⟨k, q⟩ := p
    rw [look_cons] at h
    split at h
    · cases h; simp [img]
    · have := ih h
      cases q <;> simp [img, this]
theorem nodup_cons {i : Nat} {l : List Nat} (h : nodup (i :: l) = true) : i ∉ l ∧ nodup l = true := by
  simp only [nodup] at h
  split at h
  · cases h
  · rename_i hm; exact ⟨mem_no hm, h⟩
theorem nodup_inj {ρ : List (Nat × Option Nat)} (hn : nodup (img ρ) = true) : ∀ {i j a : Nat}, look i ρ = some (some a) → look j ρ = some (some a) → i = j := by
  induction ρ with
  | nil => intro i j a h; simp [look] at h
  | cons p r ih =>
    obtain ⟨k, q⟩ := p
    intro i j a hi hj
    have hn' : nodup (img r) = true := by
      cases q with
      | none => exact hn
      | some q => exact (nodup_cons hn).2
    rw [look_cons] at hi hj
    split at hi
    · rename_i e1
      split at hj
      · rename_i e2; omega
      · cases hi
        exact absurd (img_mem hj) (nodup_cons hn).1
    · split at hj
      · cases hj
        exact absurd (img_mem hi) (nodup_cons hn).1
      · exact ih hn' hi hj
theorem pins_look {ρ : List (Nat × Option Nat)} : ∀ {τ : Sto}, pins ρ τ = true → ∀ {i : Nat}, i < 100 → (look i τ).isSome = true → look i ρ = some (some i) ∧ ∃ o, look i τ = some o
  | [], _, i, _, h => by simp [look] at h
  | (j, o) :: τ, hp, i, hi, h => by
    simp only [pins] at hp
    rw [look_cons] at h ⊢
    by_cases e : j = i
    · subst e
      rw [if_pos rfl]
      have hb : Nat.blt j 100 = true := by simpa using hi
      rw [hb] at hp
      simp only at hp
      split at hp
      · rename_i k hk
        split at hp
        · rename_i hk'; rw [beq_iff.1 hk'] at hk; exact ⟨hk, o, rfl⟩
        · cases hp
      · cases hp
    · rw [if_neg e] at h ⊢
      refine pins_look ?_ hi h
      split at hp
      · split at hp
        · split at hp
          · exact hp
          · cases hp
        · cases hp
      · exact hp
/-- one state may be taken for another -/
theorem sub_ok {w0 : World} {S0 : Fr} {N : Nat} {s t : S} {tmps : Array Value} (hst : sub s t) (h : Rel w0 S0 N g s tmps w) : ∃ g', Rel w0 S0 N g' t tmps w := by
  obtain ⟨⟨hnx, hpin⟩, hn, ha, hs⟩ := hst
  generalize gs s.σ t.σ (ga s.A t.A []) = ρ at hn ha hs hpin
  have h := frz_ok (diff (dom s.σ) (img ρ)) h
  generalize frz (diff (dom s.σ) (img ρ)) s = s' at ha hs h
  have key : ∀ j, (look j t.σ).isSome = true → (gOf ρ g j).vi = false → ∃ i, look j ρ = some (some i) ∧ (look i s'.σ).isSome = true ∧ gOf ρ g j = g i := fun j hj hv => by
    obtain ⟨o, ho⟩ := Option.isSome_iff_exists.1 hj
    rcases se_look hs j o ho with ⟨i, o', h1, h2, -⟩ | ⟨h1, -⟩
    · exact ⟨i, h1, by rw [h2]; rfl, by simp [gOf, h1]⟩
    · simp [gOf, h1] at hv
  have hsub0 : ∀ b, mine t.σ (gOf ρ g) b → mine s'.σ g b := by
    rintro b ⟨j, hj, hv, hb⟩
    obtain ⟨i, h1, h2, h3⟩ := key j hj hv
    rw [h3] at hv hb
    exact ⟨i, h2, hv, hb⟩
  have hsub : ∀ b, own S0 t.σ (gOf ρ g) b → own S0 s'.σ g b := fun b hb => hb.imp_right (hsub0 b)
  have ho : ∀ b, ¬ own S0 s'.σ g b → ¬ own S0 t.σ (gOf ρ g) b := fun b hn hb => hn (hsub b hb)
  refine ⟨gOf ρ g, ⟨⟨fun j o hj => ?_, fun i j hi hj hvi hvj hb => ?_⟩, fun u y hy => ?_, h.sz, h.kp, fun b hb => h.fr b (hsub0 b hb), fun i hi hsi => ?_, by simpa using hnx, h.dj⟩⟩
  · rcases se_look hs j o hj with ⟨i, o', h1, h2, h3⟩ | ⟨h1, cs, e, rfl⟩
    · have hg : gOf ρ g j = g i := by simp [gOf, h1]
      rw [hg]
      have hR := h.ob.objs i o' h2
      cases o' with
      | st xs e =>
        cases o with
        | ar => exact h3.elim
        | rw => exact h3.elim
        | ms => exact h3.elim
        | st ys e' =>
          obtain ⟨rfl, h3⟩ := h3
          obtain ⟨hv, vs, hb, hr⟩ := hR
          exact ⟨hv, vs, hb, ves_ok ho xs ys _ h3 hr⟩
      | rw l rf st pe xs vs =>
        cases o with
        | st => exact h3.elim
        | ar => exact h3.elim
        | ms => exact h3.elim
        | rw l' rf' st' pe' ys vs' =>
          obtain ⟨⟨rfl, rfl⟩, ⟨rfl, rfl⟩, rfl, h3⟩ := h3
          obtain ⟨hv, h0, hb, hr⟩ := hR
          exact ⟨hv, h0, hb, ves_ok ho xs ys _ h3 hr⟩
      | ms S =>
        cases o with
        | st => exact h3.elim
        | ar => exact h3.elim
        | rw => exact h3.elim
        | ms S' => obtain rfl : S = S' := h3; exact hR
      | ar n cs e =>
        cases o with
        | st => exact h3.elim
        | rw => exact h3.elim
        | ms => exact h3.elim
        | ar n' cs' e' =>
          obtain ⟨rfl, rfl, h3⟩ := h3
          obtain rfl := ceqs_eq h3
          obtain ⟨h1, h2, h3⟩ := hR
          exact ⟨h1, h2, h3.imp id fun ⟨a, b, c⟩ => ⟨a, b, fun j hj => RCs_weak ho _ _ _ _ (c j hj)⟩⟩
    · have hg : gOf ρ g j = ⟨0, 0, true, 0, 0⟩ := by simp [gOf, h1]
      rw [hg]
      exact ⟨rfl, .inl rfl, .inl ⟨rfl, rfl⟩⟩
  · obtain ⟨a, h1, h2, h3⟩ := key i hi hvi
    obtain ⟨b, h4, h5, h6⟩ := key j hj hvj
    rw [h3] at hvi hb; rw [h6] at hvj hb
    have := h.ob.inj a b h2 h5 hvi hvj hb
    subst this
    exact nodup_inj hn h1 h4
  · obtain ⟨x, hx, hxy⟩ := ae_look ha u y hy
    exact ve_ok ho x y _ hxy (h.ra u x hx)
  · obtain ⟨hp, o, ho⟩ := pins_look hpin hi hsi
    have hg : gOf ρ g i = g i := by simp [gOf, hp]
    rw [hg]
    rcases se_look hs i _ ho with ⟨i', o', h1, h2, -⟩ | ⟨h1, -⟩
    · rw [hp] at h1; cases h1; exact h.pin i hi (by rw [h2]; rfl)
    · rw [hp] at h1; cases h1
end
end Go.Proofs.Ytilmhjojbolbeaa.AM

namespace Go.Proofs.Ytilmhjojbolbeaa.AM
open Go

/-! ### the table -/
def agB : TypeDesc → Bool
  | .struct _ => true
  | .array _ _ => true
  | _ => false
def zB : V → Value → Bool
  | .i k n, .int k' n' => decide (k = k') && decide (n = n')
  | .b x, .bool y => x == y
  | .s [], .string s => s.data.toList.isEmpty
  | .l 0 [] true, .slice none 0 0 => true
  | .v (.pointer none), .pointer none => true
  | .v .nilFunc, .nilFunc => true
  | .v (.map none), .map none => true
  | .v .nilIface, .nilIface => true
  | _, _ => false
def zBs : List V → List Value → Bool
  | [], [] => true
  | x :: xs, v :: vs => zB x v && zBs xs vs
  | _, _ => false
def fB (P : Program) : List (Nat × Bool × Nat) → List Field → Bool
  | [], [] => true
  | (off, ag, sz) :: fs, f :: gs => (match P.underlying f.type, P.info? f.type with | some d, some i => agB d == ag && i.size == sz | _, _ => false) && f.offset == off && decide (0 < sz) && fB P fs gs
  | _, _ => false
def eB (P : Program) (T : TS) (e : TypeId) : Bool := T.el == e && (match P.underlying e, P.info? e with | some _, some i => i.size == T.esz && i.bytes == T.eb && decide (0 < T.esz) && decide (0 < T.eb) && (match i.zero with | some z => z.cells.size == T.esz | none => false) | _, _ => false)
def aB (P : Program) (esz : Nat) (ag : Bool) (n : Nat) : List (Nat × Bool × Nat) → Nat → Bool
  | [], j => j == n
  | (off, ag', sz) :: fs, j => off == j * esz && ag' == ag && sz == esz && aB P esz ag n fs (j + 1)
def nkB : TypeDesc → Nat
  | .pointer _ => 1
  | .slice _ => 2
  | .func _ _ _ => 3
  | .map _ _ => 4
  | .bool => 6
  | .struct _ => 7
  | .array _ _ => 8
  | .string => 9
  | .int _ => 10
  | _ => 0
/-- the kinds of the cells of a type whose values are compared cell by cell -/
def ceF (P : Program) (rec : TypeId → Option (List Nat)) : List Field → Nat → Option (List Nat)
  | [], _ => some []
  | f :: fs, off => match decide (f.name ≠ "_"), f.offset == off, rec f.type, P.info? f.type with
    | true, true, some a, some i => match i.size == a.length, ceF P rec fs (off + a.length) with
      | true, some r => some (a ++ r)
      | _, _ => none
    | _, _, _, _ => none
def ceL (P : Program) : Nat → TypeId → Option (List Nat)
  | 0, _ => none
  | m + 1, t => match P.underlying t with
    | some .bool => some [6]
    | some (.int _) => some [10]
    | some .string => some [9]
    | some (.struct fs) => match P.stoodInHeld t with
      | true => none
      | false => ceF P (ceL P m) fs.toList 0
    | _ => none
/-- a map from whole numbers to truth -/
def mbB (P : Program) (d : TypeDesc) : Bool := match d with
  | .map k e => (match P.underlying k, P.info? e with
    | some (.int .i64), some i => (match i.zero with | some (.bool false) => true | _ => false)
    | _, _ => false)
  | _ => false
/-- what the table says of a type, is so -/
def chkB (P : Program) (t : Nat) (T : TS) : Bool :=
  match P.underlying t, P.info? t with
  | some d, some i => ((match T.eqk with | [] => true | ks => (match ceL P 6 t with | some ks' => ks == ks' | none => false) && !P.eqGuardType P.depth t && T.ag) && (i.size == T.sz && nkB d == T.nk)) && agB d == T.ag &&
      (match T.arr with
        | none => (match i.zero with | some z => zBs T.z z.cells.toList && T.z.length == T.sz && decide (z.cells.size = T.sz) | none => false)
        | some (n, k) => (match i.zero, d with | some z, .array m e => n == m && z.cells.size == n && z.cells.all (fun c => match c with | .int k' 0 => decide (k = k') | _ => false) && eB P T e && T.esz == 1 && T.sz == n | _, _ => false)) &&
      (match d with
        | .slice e => eB P T e
        | .array n e => eB P T e && (match T.arr with | some _ => true | none => (match P.underlying e with | some d => aB P T.esz (agB d) n T.fs 0 | none => false))
        | .struct fs => fB P T.fs fs.toList && (match T.arr with | some _ => false | none => true)
        | .int k => (match T.k with | some k' => decide (k = k') | none => false)
        | .map k e => (match T.k with | some _ => false | none => true) && (!T.mb || mbB P (.map k e))
        | _ => (match T.k with | some _ => false | none => true))
  | _, _ => false
def TTok (P : Program) (TT : Nat → TS) : Prop := ∀ t, (TT t).id = t → chkB P t (TT t) = true
section
variable {P : Program} {TT : Nat → TS}
theorem ty_ok (hT : TTok P TT) {t : Nat} {K : TS → Prop} (h : ty TT t K) : ∃ T, T = TT t ∧ K T ∧ chkB P t T = true := by
  unfold ty at h
  split at h
  · rename_i e; exact ⟨_, rfl, h, hT t (beq_iff.1 e)⟩
  · exact h.elim
theorem chk_base {t : Nat} {T : TS} (h : chkB P t T = true) : ∃ d i, P.underlying t = some d ∧ P.info? t = some i ∧ i.size = T.sz ∧ agB d = T.ag := by
  unfold chkB at h
  split at h
  · rename_i d i h1 h2
    simp only [Bool.and_eq_true, beq_iff_eq] at h
    exact ⟨d, i, h1, h2, h.1.1.1.2.1, h.1.1.2⟩
  · cases h
theorem chk_nk {t : Nat} {T : TS} (h : chkB P t T = true) : ∃ d, P.underlying t = some d ∧ nkB d = T.nk := by
  unfold chkB at h
  split at h
  · rename_i d i h1 h2
    simp only [Bool.and_eq_true, beq_iff_eq] at h
    exact ⟨d, h1, h.1.1.1.2.2⟩
  · cases h
theorem chk_slice {t e : Nat} {T : TS} (h : chkB P t T = true) (hu : P.underlying t = some (.slice e)) : T.el = e ∧ ∃ i, P.info? e = some i ∧ i.size = T.esz ∧ i.bytes = T.eb ∧ 0 < T.esz ∧ 0 < T.eb ∧ ∃ z, i.zero = some z ∧ z.cells.size = T.esz := by
  unfold chkB at h
  rw [hu] at h
  split at h
  · rename_i d i h1 h2
    cases h1
    simp only [Bool.and_eq_true, beq_iff_eq] at h
    have h := h.2
    simp only [eB, Bool.and_eq_true, beq_iff_eq] at h
    refine ⟨h.1, ?_⟩
    have h := h.2
    split at h
    · rename_i d i h1 h2
      simp only [Bool.and_eq_true, beq_iff_eq, decide_eq_true_eq] at h
      refine ⟨i, h2, h.1.1.1.1, h.1.1.1.2, h.1.1.2, h.1.2, ?_⟩
      have h := h.2
      split at h
      · rename_i z hz; exact ⟨z, hz, by simpa using h⟩
      · cases h
    · cases h
  · cases h
theorem chk_zero {t : Nat} {T : TS} (h : chkB P t T = true) (ha : T.arr = none) : ∃ i z, P.info? t = some i ∧ i.zero = some z ∧ zBs T.z z.cells.toList = true ∧ T.z.length = T.sz ∧ z.cells.size = T.sz := by
  unfold chkB at h
  split at h
  · rename_i d i h1 h2
    simp only [Bool.and_eq_true, beq_iff_eq, ha] at h
    have h := h.1.2
    split at h
    · rename_i z hz
      simp only [Bool.and_eq_true, beq_iff_eq, decide_eq_true_eq] at h
      exact ⟨i, z, h2, hz, h.1.1, h.1.2, h.2⟩
    · cases h
  · cases h
theorem chk_arr {t : Nat} {T : TS} {n : Nat} {k : IntKind} (h : chkB P t T = true) (ha : T.arr = some (n, k)) : ∃ e i ie, P.underlying t = some (.array n e) ∧ P.info? t = some i ∧ i.size = n ∧ T.sz = n ∧ P.info? e = some ie ∧ ie.size = 1 := by
  unfold chkB at h
  split at h
  · rename_i d i h1 h2
    simp only [Bool.and_eq_true, beq_iff_eq, ha] at h
    have h3 := h.1.2
    have h0 := h.1.1.1.2.1
    split at h3
    · rename_i z m e hz
      simp only [Bool.and_eq_true, beq_iff_eq] at h3
      obtain ⟨⟨⟨⟨⟨h4, h5⟩, -⟩, h6⟩, h7⟩, h8⟩ := h3
      unfold eB at h6
      simp only [Bool.and_eq_true, beq_iff_eq] at h6
      obtain ⟨-, h6⟩ := h6
      split at h6
      · rename_i d' ie h9 h10
        simp only [Bool.and_eq_true, beq_iff_eq] at h6
        subst h4
        exact ⟨e, i, ie, h1, h2, by omega, h8, h10, by have := h6.1.1.1.1; omega⟩
      · cases h6
    · cases h3
  · cases h
theorem chk_eqk {t : Nat} {T : TS} (h : chkB P t T = true) (hk : T.eqk ≠ []) : ceL P 6 t = some T.eqk ∧ P.eqGuardType P.depth t = false ∧ T.ag = true := by
  unfold chkB at h
  split at h
  · rename_i d i h1 h2
    simp only [Bool.and_eq_true] at h
    have h := h.1.1.1.1
    cases hq : T.eqk with
    | nil => exact absurd hq hk
    | cons k ks =>
      simp only [hq, Bool.and_eq_true] at h
      obtain ⟨⟨h3, h4⟩, h5⟩ := h
      cases hc : ceL P 6 t with
      | none => rw [hc] at h3; cases h3
      | some ks' => rw [hc] at h3; rw [eq_of_beq h3]; exact ⟨rfl, by simpa using h4, h5⟩
  · cases h
theorem chk_int {t : Nat} {T : TS} {k : IntKind} (h : chkB P t T = true) (hk : T.k = some k) (hu : ∀ d, P.underlying t = some d → (∃ e, d = .slice e) ∨ (∃ n e, d = .array n e) ∨ (∃ fs, d = .struct fs) → False) : P.underlying t = some (.int k) := by
  unfold chkB at h
  split at h
  · rename_i d i h1 h2
    simp only [Bool.and_eq_true, beq_iff_eq] at h
    have h := h.2
    split at h
    · exact (hu _ h1 (.inl ⟨_, rfl⟩)).elim
    · exact (hu _ h1 (.inr (.inl ⟨_, _, rfl⟩))).elim
    · exact (hu _ h1 (.inr (.inr ⟨_, rfl⟩))).elim
    · rw [hk] at h; simp only [decide_eq_true_eq] at h; subst h; exact h1
    · rw [hk] at h; simp at h
    · rw [hk] at h; cases h
  · cases h
theorem RV_zB {g : G} {w : World} {ow : Nat → Prop} {x : V} {v : Value} (h : zB x v = true) : RV g w ow x v := by
  unfold zB at h
  split at h
  · simp only [Bool.and_eq_true, decide_eq_true_eq] at h; obtain ⟨rfl, rfl⟩ := h; rfl
  · simp only [beq_iff_eq] at h; subst h; rfl
  · rename_i s
    obtain ⟨⟨l⟩⟩ := s
    cases l with
    | nil => rfl
    | cons => simp at h
  · exact ⟨none, 0, 0, rfl, rfl, ⟨Nat.le_refl _, fun _ => rfl⟩, .inl rfl⟩
  · rfl
  · rfl
  · rfl
  · rfl
  · cases h
theorem RVs_zBs {g : G} {w : World} {ow : Nat → Prop} : ∀ {xs : List V} {vs : List Value}, zBs xs vs = true → RVs g w ow xs vs
  | [], [], _ => trivial
  | x :: xs, v :: vs, h => by simp only [zBs, Bool.and_eq_true] at h; exact ⟨RV_zB h.1, RVs_zBs h.2⟩
  | [], _ :: _, h => by simp [zBs] at h
  | _ :: _, [], h => by simp [zBs] at h
end

/-! ### a frame goes on -/
section
variable {w w' w0 : World} {S0 : Fr} {N : Nat} {g g' : G} {s s' : S} {tmps : Array Value}
theorem refs_look {A : List (Nat × V)} : ∀ {t : Nat} {x : V}, look t A = some x → ∀ o, o ∈ refs x → o ∈ refsA A := by
  induction A with
  | nil => intro t x h; simp [look] at h
  | cons p r ih =>
    intro t x h o ho
    obtain ⟨u, y⟩ := p
    rw [look_cons] at h
    split at h
    · cases h; simp [refsA, ho]
    · simp [refsA, ih h o ho]
theorem refs_lookS {σ : Sto} : ∀ {i : Nat} {x : O}, look i σ = some x → i ∈ refsS σ ∧ ∀ o, o ∈ refsO x → o ∈ refsS σ := by
  induction σ with
  | nil => intro t x h; simp [look] at h
  | cons p r ih =>
    intro t x h
    obtain ⟨u, y⟩ := p
    rw [look_cons] at h
    split at h
    · rename_i e; cases h; subst e; exact ⟨by simp [refsS], fun o ho => by simp [refsS, ho]⟩
    · exact ⟨by simp [refsS, (ih h).1], fun o ho => by simp [refsS, (ih h).2 o ho]⟩
theorem Rel.put (h : Rel w0 S0 N g s tmps w) {d : Nat} {v : V} {val : Value} (hd : d < N) (hv : RV g w (own S0 s.σ g) v val) : Rel w0 S0 N g (AM.put (some d) v s) (tmps.setIfInBounds d val) w := by
  refine ⟨h.ob, fun t x hx => ?_, by simpa using h.sz, h.kp, h.fr, h.pin, h.nx, h.dj⟩
  simp only [AM.put] at hx ⊢
  rw [look_cons] at hx
  have hsz := h.sz
  split at hx
  · rename_i e; subst e; cases hx
    simpa [hsz, hd] using hv
  · rename_i e
    have := h.ra t x hx
    simpa [Array.getElem?_setIfInBounds_ne e] using this
/-- only owned blocks have changed -/
theorem Rel.step (h : Rel w0 S0 N g s tmps w) (hk : Kp (mine s.σ g) w w') (hob : Ob S0 g' w' s'.σ) (hown : ∀ b, mine s'.σ g' b → mine s.σ g b ∨ w.heap.size ≤ b) (hnx : s.nx ≤ s'.nx) (hpin : ∀ i, i < 100 → (look i s'.σ).isSome = true → (look i s.σ).isSome = true ∧ g' i = g i)
    (hA : ∀ t x, look t s'.A = some x → look t s.A = some x ∧ ∀ o, o ∈ refs x → g' o = g o) : Rel w0 S0 N g' s' tmps w' := by
  refine ⟨hob, fun t x hx => ?_, h.sz, h.kp.trans hk (fun b hb hlt => (h.fr b hb).resolve_right (by omega)), fun b hb => ?_, fun i hi hs => (hpin i hi hs).2.trans (h.pin i hi (hpin i hi hs).1), Nat.le_trans h.nx hnx, h.dj⟩
  · obtain ⟨h1, h2⟩ := hA t x hx
    refine RV_keep (fun b hb hlt => hk.block b hlt (fun hm => hb (.inr hm))) hk.size (fun b hlt hb hb' => ?_) x _ h2 (h.ra t x h1)
    rcases hb' with hx | hb'
    · exact hb (.inl hx)
    · rcases hown b hb' with h | h
      · exact hb (.inr h)
      · omega
  · rcases hown b hb with h1 | h1
    · exact h.fr b h1
    · exact .inr (Nat.le_trans h.kp.size h1)
/-- a new object in memory that is new -/
theorem Ob.add {σ : Sto} (h : Ob S0 g w σ) (j : Nat) (o : O) (gi : GI) (hj : j ∉ refsS σ) (hk : Kp (fun _ => False) w w') (hb : gi.vi = false → w.heap.size ≤ gi.bl)
    (ho : ∀ ow : Nat → Prop, (∀ b, ow b → own S0 σ g b ∨ w.heap.size ≤ b) → RO gi (RVs (fun i => if i = j then gi else g i) w' ow) w' ow o) : Ob S0 (fun i => if i = j then gi else g i) w' ((j, o) :: σ) := by
  have hsub : ∀ b, own S0 ((j, o) :: σ) (fun i => if i = j then gi else g i) b → own S0 σ g b ∨ w.heap.size ≤ b := by
    rintro b (hx | ⟨i, h1, h2, h3⟩)
    · exact .inl (.inl hx)
    rw [look_cons] at h1
    by_cases e : j = i
    · subst e; simp only [if_true] at h2 h3; exact .inr (h3 ▸ hb h2)
    · rw [if_neg e] at h1
      simp only [if_neg (Ne.symm e)] at h2 h3
      exact .inl (.inr ⟨i, h1, h2, h3⟩)
  have hlt : ∀ i, (look i σ).isSome = true → (g i).vi = false → (g i).bl < w.heap.size := fun i hi hv => by
    obtain ⟨o, ho⟩ := Option.isSome_iff_exists.1 hi
    have := h.objs i o ho
    cases o with
    | st xs e => obtain ⟨_, vs, hb, _⟩ := this; exact blk_size hb
    | rw l rf st pe xs vs => obtain ⟨_, _, hb, _⟩ := this; exact blk_size hb
    | ms S => obtain ⟨_, es, ck, hb, _⟩ := this; exact blk_size hb
    | ar n cs e =>
      obtain ⟨_, _, h3⟩ := this
      rcases h3 with ⟨h3, _⟩ | ⟨_, ⟨c, hb, _⟩, _⟩
      · rw [hv] at h3; cases h3
      · exact blk_size hb
  refine ⟨fun i o' hi => ?_, fun i i' hi hi' hv hv' hbl => ?_⟩
  · rw [look_cons] at hi
    split at hi
    · rename_i e; subst e; cases hi
      simp only [if_true]
      exact ho _ hsub
    · rename_i e
      rw [if_neg (Ne.symm e)]
      have hR := h.objs i o' hi
      have hi2 := refs_lookS hi
      have hkb : ∀ b, b < w.heap.size → w'.heap[b]? = w.heap[b]? := fun b hb => hk.block b hb (fun h => h)
      have ho' : ∀ b, b < w.heap.size → ¬ own S0 σ g b → ¬ own S0 ((j, o) :: σ) (fun i => if i = j then gi else g i) b := fun b hlt hn hb => by
        rcases hsub b hb with h | h
        · exact hn h
        · omega
      cases o' with
      | st xs e' =>
        obtain ⟨h1, vs, hb, hr⟩ := hR
        refine ⟨h1, vs, (hkb _ (blk_size hb)).trans hb, RVs_keep (fun b _ hlt => hkb b hlt) hk.size ho' xs _ (fun q hq => ?_) hr⟩
        exact if_neg (fun (e : q = j) => hj (e ▸ hi2.2 q hq))
      | rw l rf st pe xs vs =>
        obtain ⟨h1, h0, hb, hr⟩ := hR
        have e0 : (if i = j then gi else g i) = g i := if_neg (Ne.symm e)
        refine ⟨h1, h0, (hkb _ (blk_size hb)).trans hb, RVs_keep (fun b _ hlt => hkb b hlt) hk.size ho' xs _ (fun q hq => ?_) hr⟩
        exact if_neg (fun (e : q = j) => hj (e ▸ hi2.2 q hq))
      | ms S => obtain ⟨h1, es, ck, hb, hr⟩ := hR; exact ⟨h1, es, ck, (hkb _ (blk_size hb)).trans hb, hr⟩
      | ar n cs e' =>
        obtain ⟨h1, h2, h3⟩ := hR
        refine ⟨h1, h2, h3.imp id fun ⟨a, ⟨c, hb, hc⟩, d⟩ => ⟨a, ⟨c, (hkb _ (blk_size hb)).trans hb, hc⟩, fun q hq => ?_⟩⟩
        refine RCs_keep' (fun b _ hlt => hkb b hlt) hk.size ho' cs _ _ _ (fun r v _ _ hv => ?_) (d q hq)
        rw [blk_cell ((hkb _ (blk_size hb)).trans hb)]; rw [blk_cell hb] at hv; exact hv
  · rw [look_cons] at hi hi'
    by_cases e : j = i
    · subst e
      by_cases e' : j = i'
      · exact e'
      · rw [if_neg e'] at hi'
        simp only [if_true, if_neg (Ne.symm e')] at hv hv' hbl
        have := hlt i' hi' hv'
        have := hb hv
        omega
    · rw [if_neg e] at hi
      simp only [if_neg (Ne.symm e)] at hv hbl
      by_cases e' : j = i'
      · subst e'
        simp only [if_true] at hv' hbl
        have := hlt i hi hv
        have := hb hv'
        omega
      · rw [if_neg e'] at hi'
        simp only [if_neg (Ne.symm e')] at hv' hbl
        exact h.inj i i' hi hi' hv hv' hbl
theorem fresh_mem {s : S} {o : O} {K : Nat → S → Prop} (h : fresh s o K) : s.nx ∉ refsA s.A ∧ s.nx ∉ refsS s.σ ∧ s.nx ∉ refsO o ∧ K s.nx { s with σ := (s.nx, o) :: s.σ, nx := s.nx + 1 } := by
  unfold fresh at h
  split at h
  · exact h.elim
  · rename_i hm
    have := mem_no hm
    simp only [List.mem_append, not_or] at this
    exact ⟨this.1.1, this.1.2, this.2, h⟩
/-- the frame with a new object -/
theorem Rel.add (h : Rel w0 S0 N g s tmps w) (o : O) (gi : GI) (hA : s.nx ∉ refsA s.A) (hS : s.nx ∉ refsS s.σ) (hk : Kp (fun _ => False) w w') (hb : gi.vi = false → w.heap.size ≤ gi.bl)
    (ho : ∀ ow : Nat → Prop, (∀ b, ow b → own S0 s.σ g b ∨ w.heap.size ≤ b) → RO gi (RVs (fun i => if i = s.nx then gi else g i) w' ow) w' ow o) :
    Rel w0 S0 N (fun i => if i = s.nx then gi else g i) { s with σ := (s.nx, o) :: s.σ, nx := s.nx + 1 } tmps w' := by
  refine h.step (hk.mono (fun b hb _ => hb.elim)) (h.ob.add s.nx o gi hS hk hb ho) ?_ (Nat.le_succ _) (fun i hi hs => ?_) (fun t x hx => ⟨hx, fun q hq => ?_⟩)
  · rintro b ⟨i, h1, h2, h3⟩
    simp only at h1
    rw [look_cons] at h1
    by_cases e : s.nx = i
    · subst e; simp only [if_true] at h2 h3; exact .inr (h3 ▸ hb h2)
    · rw [if_neg e] at h1
      simp only [if_neg (Ne.symm e)] at h2 h3
      exact .inl ⟨i, h1, h2, h3⟩
  · have hne : ¬ s.nx = i := by have := h.nx; omega
    simp only at hs
    rw [look_cons, if_neg hne] at hs
    exact ⟨hs, if_neg (Ne.symm hne)⟩
  · exact if_neg (fun (e : q = s.nx) => hA (e ▸ refs_look hx q hq))
end
end Go.Proofs.Ytilmhjojbolbeaa.AM

namespace Go.Proofs.Ytilmhjojbolbeaa.AM
open Go

theorem need_some {α : Type} {o : Option α} {K : α → Prop} (h : need o K) : ∃ x, o = some x ∧ K x := by
  cases o with
  | none => exact h.elim
  | some x => exact ⟨x, rfl, h⟩
section
variable {P : Program} {H : (α : Type) → α → α} {TT : Nat → TS} {w0 : World} {S0 : Fr} {N : Nat} {g : G} {s : S} {a : Act} {w : World} {next : Act → World → Prop} {Q : Exit → Act → World → Prop} {o : Oper}
theorem wp_value {val : Value} {w' : World} (h : (execOp a.eval o).run P w = .ok (.value val) w') (hn : next (a.put o.dst val) w') : o.wp P a w next Q := by
  unfold Oper.wp; rw [h]; exact hn
theorem wp_v {m : Sem Value} {val : Value} {w' : World} (he : execOp a.eval o = (do pure (.value (← m)))) (h : m.run P w = .ok val w') (hn : next (a.put o.dst val) w') : o.wp P a w next Q :=
  wp_value (by rw [he]; simp [h]) hn
theorem ev_ok {x : Operand} {v : V} (h : Rel w0 S0 N g s a.tmps w) (hx : ev s x = some v) : RV g w (own S0 s.σ g) v (a.eval x) := by
  cases x with
  | tmp t => exact h.ra t v hx
  | const u => cases hx; exact RV_ofV u
  | global => cases hx
  | func f => cases hx; exact ⟨#[], rfl, trivial⟩
theorem evs_ok (h : Rel w0 S0 N g s a.tmps w) : ∀ {xs : List Operand} {vs : List V}, evs s xs = some vs → RVs g w (own S0 s.σ g) vs (xs.map a.eval)
  | [], vs, hv => by cases hv; trivial
  | x :: xs, vs, hv => by
    simp only [evs] at hv
    split at hv <;> cases hv
    rename_i v vs h1 h2
    exact ⟨ev_ok h h1, evs_ok h h2⟩
theorem leaf_one {ow : Nat → Prop} {x : V} {v : Value} (hl : leaf x = true) (h : RV g w ow x v) : v.oneCell' = true := by
  cases x with
  | i => obtain rfl : v = _ := h; rfl
  | b => obtain rfl : v = _ := h; rfl
  | s => obtain rfl : v = _ := h; rfl
  | v u =>
    obtain rfl : v = u := h
    cases v <;> first | rfl | (simp [leaf] at hl)
  | l => obtain ⟨_, _, _, rfl, _⟩ := h; rfl
  | p => obtain ⟨_, _, rfl, _⟩ := h; rfl
  | sl => obtain ⟨_, _, _, rfl, _⟩ := h; rfl
  | pt => obtain ⟨rfl, _⟩ := h; rfl
  | pe => obtain ⟨_, _, rfl, _⟩ := h; rfl
  | mp => obtain ⟨rfl, _⟩ := h; rfl
  | fn => obtain ⟨_, rfl, _⟩ := h; rfl
  | fb => obtain ⟨_, rfl, _⟩ := h; rfl
  | ag => simp [leaf] at hl
  | tu => simp [leaf] at hl
  | av => simp [leaf] at hl
theorem leaves_one {ow : Nat → Prop} : ∀ {xs : List V} {vs : List Value}, leaves xs = true → RVs g w ow xs vs → ∀ v ∈ vs, v.oneCell' = true
  | [], [], _, _, v, hv => by cases hv
  | x :: xs, v :: vs, hl, h, u, hu => by
    simp only [leaves] at hl
    split at hl
    · rename_i h1
      rcases List.mem_cons.1 hu with rfl | hu
      · exact leaf_one h1 h.1
      · exact leaves_one hl h.2 u hu
    · cases hl
  | [], _ :: _, _, h, _, _ => h.elim
  | _ :: _, [], _, h, _, _ => h.elim
/-- a value's cells -/
theorem cells_ok {ow : Nat → Prop} {x : V} {v : Value} (hl : leaves (cells x) = true) (h : RV g w ow x v) : RVs g w ow (cells x) v.cells.toList := by
  cases x with
  | ag xs => obtain ⟨vs, rfl, h⟩ := h; exact h
  | tu xs => simp [cells, leaves, leaf] at hl
  | av => simp [cells, leaves, leaf] at hl
  | v u =>
    obtain rfl : v = u := h
    cases v <;> first | exact ⟨rfl, trivial⟩ | (simp [cells, leaves, leaf] at hl)
  | i => obtain rfl : v = _ := h; exact ⟨rfl, trivial⟩
  | b => obtain rfl : v = _ := h; exact ⟨rfl, trivial⟩
  | s => obtain rfl : v = _ := h; exact ⟨rfl, trivial⟩
  | l => obtain ⟨_, _, _, rfl, h⟩ := h; exact ⟨⟨_, _, _, rfl, h⟩, trivial⟩
  | p => obtain ⟨_, _, rfl, h⟩ := h; exact ⟨⟨_, _, rfl, h⟩, trivial⟩
  | sl => obtain ⟨_, _, _, rfl, h⟩ := h; exact ⟨⟨_, _, _, rfl, h⟩, trivial⟩
  | pt => obtain ⟨rfl, h⟩ := h; exact ⟨⟨rfl, h⟩, trivial⟩
  | pe => obtain ⟨_, e, rfl, h⟩ := h; exact ⟨⟨_, e, rfl, h⟩, trivial⟩
  | mp => obtain ⟨rfl, h⟩ := h; exact ⟨⟨rfl, h⟩, trivial⟩
  | fn => obtain ⟨_, rfl, h⟩ := h; exact ⟨⟨_, rfl, h⟩, trivial⟩
  | fb => obtain ⟨_, rfl, h⟩ := h; exact ⟨⟨_, rfl, h⟩, trivial⟩

/-! ### loads -/
theorem RVs_vals (hH : ∀ α x, H α x = x) {ow : Nat → Prop} {b : Nat} : ∀ {cs : List C} {o : Nat}, RCs w ow cs [] b o → ∃ vs : List Value, RVs g w ow (vals H cs) vs ∧ ∀ j v, vs[j]? = some v → w.cell? ⟨b, o + j, none⟩ = some v
  | [], o, _ => ⟨[], trivial, fun j v h => by simp at h⟩
  | c :: cs, o, h => by
    obtain ⟨⟨v, h1, h2⟩, h3⟩ := h
    obtain ⟨vs, h4, h5⟩ := RVs_vals hH h3
    refine ⟨v :: vs, ⟨RV_val hH h2, h4⟩, fun j u hj => ?_⟩
    cases j with
    | zero => simp at hj; subst hj; simpa using h1
    | succ j => have := h5 j u (by simpa using hj); rw [show o + (j + 1) = o + 1 + j by omega]; exact this
/-- of cells in memory the value of a type -/
theorem asT_ok {ow : Nat → Prop} {t : Nat} {T : TS} (hc : chkB P t T = true) {b of : Nat} {xs : List V} {vs : List Value} {K : V → Prop} (hx : RVs g w ow xs vs) (hw : ∀ (j : Nat) (v : Value), vs[j]? = some v → w.cell? ⟨b, of + j, none⟩ = some v)
    (hK : asT T xs K) : ∃ r val, K r ∧ RV g w ow r val ∧ (Instr.loadAt t (.pointer (some ⟨b, of, none⟩))).run P w = .ok val w := by
  obtain ⟨d, i, hu, hi, hsz, hag⟩ := chk_base hc
  unfold asT at hK
  split at hK
  · rename_i ht
    split at hK
    · rename_i hle
      have hle := Nat.le_of_ble_eq_true hle
      rw [RVs_len hx] at hle
      have hl : (vs.take T.sz).length = T.sz := by simp; omega
      refine ⟨_, .agg (vs.take T.sz).toArray, hK, ⟨_, rfl, RVs_take _ hx⟩, ?_⟩
      refine run_loadAt_mid w b of t (vs.take T.sz) d (fun j v hj => ?_) hu ?_ (by rw [hi]; simp [hsz, hl])
      · rw [List.getElem?_take] at hj
        split at hj
        · exact hw j v hj
        · cases hj
      · rw [ht] at hag; cases d <;> simp_all [agB, TypeDesc.isRow]
    · exact hK.elim
  · rename_i ht
    split at hK
    · rename_i x xs
      cases vs with
      | nil => exact hx.elim
      | cons v vs =>
        refine ⟨x, v, hK, hx.1, ?_⟩
        have h0 := hw 0 v (by simp)
        have hagg : (isAgg t).run P w = .ok false w := by
          unfold isAgg
          rw [Sem.run_bind, run_underlying hu w]
          rw [ht] at hag
          cases d <;> simp_all [agB]
        simp only [Nat.add_zero] at h0
        simp [Instr.loadAt, Instr.sureAddr, loadVar, hagg, h0]
    · exact hK.elim
theorem vload_ok (hH : ∀ α x, H α x = x) {t : Nat} {T : TS} (hc : chkB P t T = true) (h : Ob S0 g w s.σ) {x : V} {v : Value} {K : V → Prop} (hx : RV g w (own S0 s.σ g) x v) (hK : vload H T s.σ x K) :
    ∃ r val, K r ∧ RV g w (own S0 s.σ g) r val ∧ (Instr.loadAt t v).run P w = .ok val w := by
  cases x <;> simp only [vload] at hK
  case p cs =>
    obtain ⟨b, of, rfl, -, -, hr⟩ := hx
    obtain ⟨vs, h1, h2⟩ := RVs_vals (g := g) hH hr
    exact asT_ok hc h1 h2 hK
  case pt i off =>
    split at hK
    · rename_i xs e hl
      obtain ⟨rfl, hv⟩ := hx
      obtain ⟨-, vs, hb, hr⟩ := h.objs i _ hl
      refine asT_ok hc (RVs_drop off hr) (fun j v hj => ?_) hK
      rw [blk_cell hb]; simpa using hj
    · rename_i m k f e hl
      obtain ⟨rfl, hv⟩ := hx
      split at hK
      · rename_i n k' ha
        split at hK
        · rename_i h1 h2
          obtain rfl := beq_iff.1 h1
          obtain rfl := of_decide_eq_true h2
          obtain ⟨rfl, hK⟩ := hK
          obtain ⟨hn, hsz, hR⟩ := h.objs i _ hl
          obtain ⟨e', i', ie, c1, c2, c3, c4, c5, c6⟩ := chk_arr hc ha
          have hln : (g i).ln = n := by omega
          rcases hR with ⟨h3, _⟩ | ⟨_, ⟨c', hb, hcs, hle⟩, hR⟩
          · rw [hv] at h3; cases h3
          · refine ⟨_, .agg ((List.range n).map fun (j : Nat) => Value.int k (f [(j : Int)])).toArray, hK, ⟨_, rfl, by simp, fun j hj => by simp [hj]⟩, ?_⟩
            refine run_loadAt_mid w _ 0 t ((List.range n).map fun (j : Nat) => Value.int k (f [(j : Int)])) _ (fun j v hj => ?_) c1 rfl (by rw [c2]; simp [c3])
            have hlt : j < n := by have := (List.getElem?_eq_some_iff.1 hj).1; simpa using this
            simp [hlt] at hj
            obtain ⟨⟨u, q1, q2⟩, -⟩ := hR j (by omega)
            obtain rfl : u = _ := q2
            have hs1 : (g i).sz = 1 := by
              rcases hsz with h0 | h0
              · omega
              · exact h0.1.symm
            rw [hs1, Nat.mul_one] at q1
            rw [Nat.zero_add, q1, hj]
        · exact hK.elim
      · exact hK.elim
    · exact hK.elim
  case pe i j sz c =>
    split at hK
    · rename_i n cs e hl
      obtain ⟨q, rfl, rfl, hv, hlt, rfl⟩ := hx
      obtain ⟨hn, hsz, hR⟩ := h.objs i _ hl
      rcases hR with ⟨h3, _⟩ | ⟨_, ⟨c', hb, hcs, hle⟩, hR⟩
      · rw [hv] at h3; cases h3
      · obtain ⟨vs, h1, h2⟩ := RVs_vals (g := g) hH (RCs_sh _ _ [] _ _ (hR q hlt))
        refine asT_ok hc (RVs_drop c h1) (fun k v hk => ?_) hK
        have := h2 (c + k) v (by simpa using hk)
        rw [show q * (g i).sz + c + k = q * (g i).sz + (c + k) by omega]; exact this
    · exact hK.elim
  all_goals exact hK.elim
end
end Go.Proofs.Ytilmhjojbolbeaa.AM

