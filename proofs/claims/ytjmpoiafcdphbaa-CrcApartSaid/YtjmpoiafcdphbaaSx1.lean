/- A symbolic executor over the model's code: expressions, values, memory, one operation, a region, code, calls. It is a plain function; its soundness is proved in the texts behind it. -/
import Derived.Orders
import Derived.Tactics
import Derived.Scope
import Derived.LoopN
import Derived.Below
import Derived.KernelRfl
import Derived.Laws.Entries
import Derived.Laws.StructEq
import Derived.Laws.Rows
import Derived.Laws.Cells
import Derived.Laws.Small
import Derived.Test.YtjmpoiafcdphbaaSx2
namespace Go.Proofs.YtjmpoiafcdphbaaSx
set_option linter.unusedVariables false
set_option linter.unusedSimpArgs false

/-- What stands for the unknown numbers, truths, slices. -/
structure Env where
  int : Nat → Int
  bool : Nat → Bool
  sa : Nat → Option Addr
  sl : Nat → Nat
  sc : Nat → Nat
  fn : Nat → Int → Int

/-- What is found out on the way: where blocks lie, values that nothing is known of. -/
structure Bt where
  blk : Nat → Nat
  val : Nat → Value
  one : ∀ n, (val n).oneCell' = true

mutual
/-- A whole number. -/
inductive E where
  | lit (z : Int)
  | var (n : Nat)
  | bin (op : BinOp) (k : IntKind) (a b : E)
  | wrap (k : IntKind) (a : E)
  | mx (a b : E)
  | mn (a b : E)
  | ite (c : B) (a b : E)
  | slen (n : Nat)
  | app (f : Nat) (a : E)
/-- A truth. -/
inductive B where
  | lit (b : Bool)
  | var (n : Nat)
  | lt (a b : E)
  | le (a b : E)
  | eq (a b : E)
  | not (a : B)
  | and (a b : B)
  | or (a b : B)
  | beq (a b : B)
  | ite (c a b : B)
end

def den2 (op : BinOp) (k : IntKind) (x y : Int) : Int :=
  match op with
  | .add => k.wrap (x + y)
  | .sub => k.wrap (x - y)
  | .mul => k.wrap (x * y)
  | .quo => k.wrap (x.tdiv y)
  | .rem => x.tmod y
  | .and => bits .and k x y
  | .or => bits .or k x y
  | .xor => bits .xor k x y
  | .andNot => bits .andNot k x y
  | .shl => k.wrap (x * 2 ^ min y.toNat k.bits)
  | .shr => x.fdiv (2 ^ min y.toNat k.bits)
  | _ => 0

mutual
def E.den (ι : Env) : E → Int
  | .lit z => z
  | .var n => ι.int n
  | .bin op k a b => den2 op k (E.den ι a) (E.den ι b)
  | .wrap k a => k.wrap (E.den ι a)
  | .mx a b => if E.den ι a < E.den ι b then E.den ι b else E.den ι a
  | .mn a b => if E.den ι b < E.den ι a then E.den ι b else E.den ι a
  | .ite c a b => if B.den ι c = true then E.den ι a else E.den ι b
  | .slen n => (ι.sl n : Int)
  | .app f a => ι.fn f (E.den ι a)
def B.den (ι : Env) : B → Bool
  | .lit b => b
  | .var n => ι.bool n
  | .lt a b => decide (E.den ι a < E.den ι b)
  | .le a b => decide (E.den ι a ≤ E.den ι b)
  | .eq a b => decide (E.den ι a = E.den ι b)
  | .not a => !B.den ι a
  | .and a b => B.den ι a && B.den ι b
  | .or a b => B.den ι a || B.den ι b
  | .beq a b => B.den ι a == B.den ι b
  | .ite c a b => if B.den ι c = true then B.den ι a else B.den ι b
end

def mkBin (op : BinOp) (k : IntKind) (a b : E) : E :=
  match a, b with
  | .lit x, .lit y => .lit (den2 op k x y)
  | a, b => .bin op k a b
def mkWrap (k : IntKind) (a : E) : E :=
  match a with
  | .lit x => .lit (k.wrap x)
  | a => .wrap k a
def mkMx (a b : E) : E :=
  match a, b with
  | .lit x, .lit y => .lit (if x < y then y else x)
  | a, b => .mx a b
def mkMn (a b : E) : E :=
  match a, b with
  | .lit x, .lit y => .lit (if y < x then y else x)
  | a, b => .mn a b
def mkNot (a : B) : B := match a with | .lit x => .lit (!x) | .not a => a | a => .not a
def mkAnd (a b : B) : B := match a, b with | .lit true, b => b | .lit false, _ => .lit false | a, .lit true => a | _, .lit false => .lit false | a, b => .and a b
def mkOr (a b : B) : B := match a, b with | .lit true, _ => .lit true | .lit false, b => b | _, .lit true => .lit true | a, .lit false => a | a, b => .or a b
def mkBeq (a b : B) : B := match a, b with | .lit true, b => b | .lit false, b => mkNot b | a, .lit true => a | a, .lit false => mkNot a | a, b => .beq a b
def mkIteB (c a b : B) : B :=
  match c, a, b with
  | .lit true, a, _ => a
  | .lit false, _, b => b
  | c, .lit true, b => mkOr c b
  | c, .lit false, b => mkAnd (mkNot c) b
  | c, a, .lit true => mkOr (mkNot c) a
  | c, a, .lit false => mkAnd c a
  | c, a, b => .ite c a b

/-- A test of a number that is one of some literals. -/
def distL (f : Int → Bool) : E → Option B
  | .lit x => some (.lit (f x))
  | .ite c a b => (match distL f a, distL f b with | some p, some q => some (mkIteB c p q) | _, _ => none)
  | _ => none
def orB (o : Option B) (q : B) : B := match o with | some p => p | none => q
def mkLt (a b : E) : B :=
  match a, b with
  | .lit x, .lit y => .lit (decide (x < y))
  | .lit x, .ite c p q => orB (distL (fun z => decide (x < z)) (.ite c p q)) (.lt (.lit x) (.ite c p q))
  | .ite c p q, .lit y => orB (distL (fun z => decide (z < y)) (.ite c p q)) (.lt (.ite c p q) (.lit y))
  | a, b => .lt a b
def mkLe (a b : E) : B :=
  match a, b with
  | .lit x, .lit y => .lit (decide (x ≤ y))
  | .lit x, .ite c p q => orB (distL (fun z => decide (x ≤ z)) (.ite c p q)) (.le (.lit x) (.ite c p q))
  | .ite c p q, .lit y => orB (distL (fun z => decide (z ≤ y)) (.ite c p q)) (.le (.ite c p q) (.lit y))
  | a, b => .le a b
def mkEq (a b : E) : B :=
  match a, b with
  | .lit x, .lit y => .lit (decide (x = y))
  | .lit x, .ite c p q => orB (distL (fun z => decide (x = z)) (.ite c p q)) (.eq (.lit x) (.ite c p q))
  | .ite c p q, .lit y => orB (distL (fun z => decide (z = y)) (.ite c p q)) (.eq (.ite c p q) (.lit y))
  | a, b => .eq a b

/-- A value. Pointers name a block by its number among those that are known. -/
inductive SV where
  | int (k : IntKind) (e : E)
  | bool (b : B)
  | ptr (b off : Nat)
  | ptx (b off : Nat) (ix : List (E × (Nat × Nat)))
  | gptr (g off : Nat)
  | nilptr
  | slice (b off len cap : Nat)
  | nilslice
  | slc (n : Nat)
  | func (fn : Fn) (first captured : List SV)
  | nilfunc
  | nilif
  | str (s : ByteArray)
  | opq (n : Nat)
  | agg (cs : List SV)
  | tup (vs : List SV)
  | rptr (n : Nat) (e : E) (m off : Nat)
  | any (n : Nat)

/-- A place among the ways of some indexes: each with its stride and how many there are. -/
def offX (ι : Env) (off : Nat) : List (E × (Nat × Nat)) → Nat
  | [] => off
  | (e, m, _) :: ix => offX ι (off + (e.den ι).toNat * m) ix

/-- What lies in a box. -/
def unbox : Value → Value
  | .iface _ v => v
  | v => v
/-- The number under which the cells j of a slice's elements are told. -/
def fnNo (n j : Nat) : Nat := 64 * n + j

mutual
def SV.den (ι : Env) (β : Bt) : SV → Value
  | .int k e => .int k (e.den ι)
  | .bool b => .bool (b.den ι)
  | .ptr b off => .pointer (some ⟨β.blk b, off, none⟩)
  | .ptx b off ix => .pointer (some ⟨β.blk b, offX ι off ix, none⟩)
  | .gptr g off => .pointer (some ⟨g, off, none⟩)
  | .nilptr => .pointer none
  | .slice b off len cap => .slice (some ⟨β.blk b, off, none⟩) len cap
  | .nilslice => .slice none 0 0
  | .slc n => .slice (ι.sa n) (ι.sl n) (ι.sc n)
  | .func fn first captured => .func fn (SV.denL ι β first).toArray (SV.denL ι β captured).toArray
  | .nilfunc => .nilFunc
  | .nilif => .nilIface
  | .str s => .string s
  | .opq n => β.val n
  | .agg cs => .agg (SV.denL ι β cs).toArray
  | .tup vs => .tuple (SV.denL ι β vs).toArray
  | .rptr n e m off => .pointer ((ι.sa n).map fun a => ⟨a.block, a.off + (e.den ι).toNat * m + off, none⟩)
  | .any n => unbox (β.val n)
def SV.denL (ι : Env) (β : Bt) : List SV → List Value
  | [] => []
  | v :: vs => SV.den ι β v :: SV.denL ι β vs
end

def uninit : SV := .tup []

/-- A value that the program's text or tables give, read off. -/
def ofCell : Value → Option SV
  | .int k n => some (.int k (.lit n))
  | .bool b => some (.bool (.lit b))
  | .pointer none => some .nilptr
  | .slice none 0 0 => some .nilslice
  | .nilFunc => some .nilfunc
  | .nilIface => some .nilif
  | .string s => some (.str s)
  | _ => none
def ofCells : List Value → Option (List SV)
  | [] => some []
  | v :: vs => match ofCell v, ofCells vs with | some x, some xs => some (x :: xs) | _, _ => none
def ofValue : Value → Option SV
  | .agg cs => match ofCells cs.toList with | some l => some (.agg l) | none => none
  | .tuple cs => match cs.toList with | [] => some uninit | _ => none
  | v => ofCell v

/-- One cell or several. -/
def SV.cellsL : SV → List SV
  | .agg cs => cs
  | v => [v]

/-- One cell, and no more. -/
def SV.isOne : SV → Bool
  | .agg _ => false
  | .tup _ => false
  | .any _ => false
  | _ => true
def SV.isAny : SV → Bool
  | .any _ => true
  | _ => false
def allOne : List SV → Bool
  | [] => true
  | v :: vs => v.isOne && allOne vs

/-- A tree of ways. -/
inductive T (α : Type) where
  | leaf (a : α)
  | br (c : B) (t e : T α)
  | need (c : B) (t : T α)
  | fail (why : String)

noncomputable def T.bind {α β : Type} (t : T α) (f : α → T β) : T β :=
  T.rec (motive := fun _ => T β) (fun a => f a) (fun c _ _ t e => .br c t e) (fun c _ t => .need c t) (fun s => .fail s) t

/-- The way that is gone. -/
def T.pick {α : Type} (ι : Env) : T α → Option α
  | .leaf a => some a
  | .br c t e => if c.den ι = true then t.pick ι else e.pick ι
  | .need c t => if c.den ι = true then t.pick ι else none
  | .fail _ => none

def T.ofOpt {α : Type} (why : String) : Option α → T α
  | some a => .leaf a
  | none => .fail why
/-! ### What is known on the way -/
def eqK : IntKind → IntKind → Bool := fun a b => decide (a = b)
def eqOp : BinOp → BinOp → Bool := fun a b => decide (a = b)
mutual
def eqE : E → E → Bool
  | .lit x, .lit y => decide (x = y)
  | .var x, .var y => decide (x = y)
  | .bin o k a b, .bin o' k' a' b' => eqOp o o' && (eqK k k' && (eqE a a' && eqE b b'))
  | .wrap k a, .wrap k' a' => eqK k k' && eqE a a'
  | .mx a b, .mx a' b' => eqE a a' && eqE b b'
  | .mn a b, .mn a' b' => eqE a a' && eqE b b'
  | .ite c a b, .ite c' a' b' => eqB c c' && (eqE a a' && eqE b b')
  | .slen x, .slen y => decide (x = y)
  | .app f a, .app f' a' => decide (f = f') && eqE a a'
  | _, _ => false
def eqB : B → B → Bool
  | .lit x, .lit y => x == y
  | .var x, .var y => decide (x = y)
  | .lt a b, .lt a' b' => eqE a a' && eqE b b'
  | .le a b, .le a' b' => eqE a a' && eqE b b'
  | .eq a b, .eq a' b' => eqE a a' && eqE b b'
  | .not a, .not a' => eqB a a'
  | .and a b, .and a' b' => eqB a a' && eqB b b'
  | .or a b, .or a' b' => eqB a a' && eqB b b'
  | .beq a b, .beq a' b' => eqB a a' && eqB b b'
  | .ite c a b, .ite c' a' b' => eqB c c' && (eqB a a' && eqB b b')
  | _, _ => false
end
abbrev Asm := List (B × Bool)
/-- Is 'a < b' known? -/
def knowLt (a b : E) : Asm → Option Bool
  | [] => none
  | (.lt x y, v) :: l =>
    match eqE a x && eqE b y with
    | true => some v
    | false => match v && (eqE a y && eqE b x) with | true => some false | false => knowLt a b l
  | (.eq x y, true) :: l => (match (eqE a x && eqE b y) || (eqE a y && eqE b x) with | true => some false | false => knowLt a b l)
  | _ :: l => knowLt a b l
def litNe : E → E → Bool | .lit x, .lit y => !decide (x = y) | _, _ => false
def knowEq (a b : E) : Asm → Option Bool
  | [] => none
  | (.eq x y, true) :: l => (match (eqE a x && eqE b y) || (eqE a y && eqE b x) with
    | true => some true
    | false => match (eqE a x && litNe b y) || (eqE a y && litNe b x) || (eqE b x && litNe a y) || (eqE b y && litNe a x) with | true => some false | false => knowEq a b l)
  | (.eq x y, false) :: l => (match (eqE a x && eqE b y) || (eqE a y && eqE b x) with | true => some false | false => knowEq a b l)
  | (.lt x y, true) :: l => (match (eqE a x && eqE b y) || (eqE a y && eqE b x) with | true => some false | false => knowEq a b l)
  | _ :: l => knowEq a b l
def knowVar (n : Nat) : Asm → Option Bool
  | [] => none
  | (.var m, v) :: l => (match decide (n = m) with | true => some v | false => knowVar n l)
  | _ :: l => knowVar n l
def evalA (l : Asm) : B → Option Bool
  | .lit b => some b
  | .var n => knowVar n l
  | .lt a b => (match eqE a b with | true => some false | false => knowLt a b l)
  | .le a b => (match eqE a b with | true => some true | false => match knowLt b a l with | some v => some (!v) | none => none)
  | .eq a b => (match eqE a b with
    | true => some true
    | false => match knowEq a b l with
      | some v => some v
      | none => match knowLt a b l, knowLt b a l with | some false, some false => some true | _, _ => none)
  | .not a => (match evalA l a with | some v => some (!v) | none => none)
  | .and a b => (match evalA l a, evalA l b with | some false, _ => some false | _, some false => some false | some true, some true => some true | _, _ => none)
  | .or a b => (match evalA l a, evalA l b with | some true, _ => some true | _, some true => some true | some false, some false => some false | _, _ => none)
  | .beq a b => (match eqB a b with | true => some true | false => match evalA l a, evalA l b with | some x, some y => some (x == y) | _, _ => none)
  | .ite c a b => (match evalA l c with | some true => evalA l a | some false => evalA l b | none => none)
/-- What is known once q is v. -/
def addA : B → Bool → Asm → Asm
  | .lit _, _, l => l
  | .not a, v, l => addA a (!v) l
  | .and a b, true, l => addA a true (addA b true l)
  | .or a b, false, l => addA a false (addA b false l)
  | .le a b, v, l => (.lt b a, !v) :: l
  | q, v, l => (q, v) :: l
/-- A way for each truth, what is known handed on. -/
def T.ifA {α : Type} (l : Asm) (q : B) (t e : Asm → T α) : T α :=
  match evalA l q with
  | some true => t l
  | some false => e l
  | none => .br q (t (addA q true l)) (e (addA q false l))
def T.ifK {α : Type} (l : Asm) (q : B) (t e : T α) : T α :=
  match evalA l q with
  | some true => t
  | some false => e
  | none => .br q t e
def T.mustK {α : Type} (l : Asm) (q : B) (t : T α) : T α :=
  match evalA l q with
  | some true => t
  | _ => .need q t

/-! ### Two values, by a truth -/
def mkIteE (c : B) (a b : E) : E :=
  match c with
  | .lit true => a
  | .lit false => b
  | c => match eqE a b with | true => a | false => .ite c a b
mutual
def mergeV (c : B) : SV → SV → Option SV
  | .int k a, .int k' b => (match eqK k k' with | true => some (.int k (mkIteE c a b)) | false => none)
  | .bool a, .bool b => some (.bool (match eqB a b with | true => a | false => mkIteB c a b))
  | .ptr b o, .ptr b' o' => (match decide (b = b') && decide (o = o') with | true => some (.ptr b o) | false => none)
  | .gptr b o, .gptr b' o' => (match decide (b = b') && decide (o = o') with | true => some (.gptr b o) | false => none)
  | .nilptr, .nilptr => some .nilptr
  | .slice b o l n, .slice b' o' l' n' => (match decide (b = b') && (decide (o = o') && (decide (l = l') && decide (n = n'))) with | true => some (.slice b o l n) | false => none)
  | .nilslice, .nilslice => some .nilslice
  | .slc n, .slc m => (match decide (n = m) with | true => some (.slc n) | false => none)
  | .nilfunc, .nilfunc => some .nilfunc
  | .nilif, .nilif => some .nilif
  | .opq n, .opq m => (match decide (n = m) with | true => some (.opq n) | false => none)
  | .agg xs, .agg ys => (match mergeL c xs ys with | some l => some (.agg l) | none => none)
  | .tup xs, .tup ys => (match mergeL c xs ys with | some l => some (.tup l) | none => none)
  | _, _ => none
def mergeL (c : B) : List SV → List SV → Option (List SV)
  | [], [] => some []
  | x :: xs, y :: ys => (match mergeV c x y, mergeL c xs ys with | some v, some l => some (v :: l) | _, _ => none)
  | _, _ => none
end
/-- A tree of values as one value, and what must be so. -/
noncomputable def mergeT (t : T SV) : Option (List B × SV) :=
  T.rec (motive := fun _ => Option (List B × SV)) (fun v => some ([], v))
    (fun c _ _ a b =>
      match a, b with
      | some (p, x), some (q, y) => (match mergeV c x y with | some v => some (p.map (fun n => mkOr (mkNot c) n) ++ q.map (fun n => mkOr c n), v) | none => none)
      | some (p, x), none => some (c :: p, x)
      | none, some (q, y) => some (mkNot c :: q, y)
      | none, none => none)
    (fun c _ a => match a with | some (p, x) => some (c :: p, x) | none => none)
    (fun _ => none) t
noncomputable def T.needs {α : Type} (asm : Asm) (l : List B) (t : T α) : T α := List.rec (motive := fun _ => T α) t (fun b _ ih => T.mustK asm b ih) l

abbrev Mem := List (Nat × List SV)
noncomputable def mget (b : Nat) (m : Mem) : Option (List SV) :=
  List.rec (motive := fun _ => Option (List SV)) none (fun x _ ih => Bool.rec ih (some x.2) (Nat.beq x.1 b)) m

structure St where
  tmps : List SV
  mem : Mem
  nxt : Nat
  asm : Asm
/-- What a cell of a slice's element holds. -/
inductive RK where
  | int (k : IntKind)
  | bool
abbrev LoopF := St → T (Exit × St)
/-- What does not turn: the program; blocks from here on may be written; package-level variables that are known. -/
structure Ctx where
  P : Program
  ro : Nat
  glob : Mem
  /-- what is called as it lies: what it makes or writes is looked at -/
  open_ : List Nat := []
  /-- functions that are known: what each answers, and what numbers of unknown values it takes for that -/
  con : List (Nat × (List SV → Nat → Option (SV × Nat))) := []
  /-- below this block all stays as it is in that world -/
  base : Nat := 0
  bw : World := default
  /-- slices that came in, and what their elements' cells hold -/
  rows : List (Nat × List RK) := []
  /-- loops that are told of: whose function's, which (by its first region), what they come to -/
  lps : List ((Nat × Nat) × LoopF) := []
noncomputable def rowOf (n : Nat) (l : List (Nat × List RK)) : Option (List RK) :=
  List.rec (motive := fun _ => Option (List RK)) none (fun x _ ih => Bool.rec ih (some x.2) (Nat.beq x.1 n)) l
noncomputable def lpOf (f r : Nat) (l : List ((Nat × Nat) × LoopF)) : Option LoopF :=
  List.rec (motive := fun _ => Option LoopF) none (fun x _ ih => Bool.rec ih (Bool.rec ih (some x.2) (Nat.beq x.1.2 r)) (Nat.beq x.1.1 f)) l
noncomputable def lpAt (c : Ctx) (f r : Nat) : Option LoopF := match Nat.beq c.ro 0 with | true => lpOf f r c.lps | false => none
def rowCell (n : Nat) (e : E) (j : Nat) : RK → SV
  | .int k => .int k (.app (fnNo n j) e)
  | .bool => .bool (.eq (.app (fnNo n j) e) (.lit 1))
def rowCells (n : Nat) (e : E) : List RK → Nat → List SV
  | [], _ => []
  | k :: ks, j => rowCell n e j k :: rowCells n e ks (j + 1)

inductive R where
  | val (v : SV)
  | new (v : SV) (cells : List SV)
  | sto (b : Nat) (cells : List SV)
  | enter (f : Nat) (args : List SV)

def isAggT (P : Program) (t : TypeId) : Option Bool :=
  match P.underlying t with
  | some (.struct _) | some (.array _ _) => some true
  | some _ => some false
  | none => none
def sizeT (P : Program) (t : TypeId) : Option Nat := (P.info? t).map (·.size)
def zeroT (P : Program) (t : TypeId) : Option SV := match P.info? t with | some i => (match i.zero with | some z => ofValue z | none => none) | none => none

noncomputable def nthSV (l : List SV) (n : Nat) : Option SV :=
  List.rec (motive := fun _ => Nat → Option SV) (fun _ => none) (fun v _ ih n => Nat.rec (motive := fun _ => Option SV) (some v) (fun n _ => ih n) n) l n
noncomputable def takeSV (n : Nat) (l : List SV) : Option (List SV) :=
  Nat.rec (motive := fun _ => List SV → Option (List SV)) (fun _ => some []) (fun _ ih l => List.rec (motive := fun _ => Option (List SV)) none (fun v vs _ => Option.rec none (fun l => some (v :: l)) (ih vs)) l) n l
noncomputable def dropSV (n : Nat) (l : List SV) : List SV :=
  Nat.rec (motive := fun _ => List SV → List SV) (fun l => l) (fun _ ih l => List.rec (motive := fun _ => List SV) [] (fun _ vs _ => ih vs) l) n l
/-- vs written over cs from off on. -/
noncomputable def put0 (vs cs : List SV) : Option (List SV) :=
  List.rec (motive := fun _ => List SV → Option (List SV)) (fun cs => some cs) (fun v _ ih cs => List.rec (motive := fun _ => Option (List SV)) none (fun _ cs _ => Option.rec none (fun l => some (v :: l)) (ih cs)) cs) vs cs
noncomputable def putSV (cs : List SV) (n : Nat) (vs : List SV) : Option (List SV) :=
  Nat.rec (motive := fun _ => List SV → Option (List SV)) (fun cs => put0 vs cs) (fun _ ih cs => List.rec (motive := fun _ => Option (List SV)) none (fun c cs _ => Option.rec none (fun l => some (c :: l)) (ih cs)) cs) n cs

/-- A part of a value's cells, of a type. -/
noncomputable def partSV (P : Program) (t : TypeId) (cs : List SV) (off : Nat) : Option SV :=
  match isAggT P t, sizeT P t with
  | some true, some n => (match takeSV n (dropSV off cs) with | some l => some (.agg l) | none => none)
  | some false, _ => nthSV cs off
  | _, _ => none

noncomputable def cellsAt (c : Ctx) (mem : Mem) : SV → Option (List SV × Nat)
  | .ptr b off => (match mget b mem with | some cs => some (cs, off) | none => none)
  | .gptr g off => (match mget g c.glob with | some cs => some (cs, off) | none => none)
  | _ => none
/-- What lies at one of the places that some indexes name. -/
noncomputable def selLoad (P : Program) (t : TypeId) (cs : List SV) (ix : List (E × (Nat × Nat))) (off : Nat) : Option SV :=
  List.rec (motive := fun _ => Nat → Option SV) (fun off => partSV P t cs off)
    (fun x _ ih off => Nat.rec (motive := fun _ => Option SV) none (fun j r => match r with | none => (match j with | 0 => ih off | _ => none) | some r => match ih (off + j * x.2.1) with | some v => mergeV (mkEq x.1 (.lit j)) v r | none => none) x.2.2) ix off
noncomputable def loadSV (c : Ctx) (mem : Mem) (t : TypeId) (a : SV) : Option SV :=
  match a with
  | .ptx b off ix => (match mget b mem with | some cs => selLoad c.P t cs ix off | none => none)
  | .rptr n e m off => (match rowOf n c.rows with | some ks => (match Nat.beq ks.length m with | true => partSV c.P t (rowCells n e ks 0) off | false => none) | none => none)
  | a =>
    match cellsAt c mem a with
    | some (cs, off) => partSV c.P t cs off
    | none => none
/-- vs written over cs from off on, where q is so. -/
noncomputable def putIf (q : B) (cs : List SV) (off : Nat) (vs : List SV) : Option (List SV) :=
  match takeSV vs.length (dropSV off cs) with
  | some old => (match mergeL q vs old with | some l => putSV cs off l | none => none)
  | none => none
noncomputable def selStore (vs : List SV) (ix : List (E × (Nat × Nat))) (cs : List SV) (off : Nat) (q : B) : Option (List SV) :=
  List.rec (motive := fun _ => List SV → Nat → B → Option (List SV)) (fun cs off q => putIf q cs off vs)
    (fun x _ ih cs off q => Nat.rec (motive := fun _ => Option (List SV)) (some cs) (fun j r => match r with | some r => ih r (off + j * x.2.1) (mkAnd q (mkEq x.1 (.lit j))) | none => none) x.2.2) ix cs off q
/-- That each index lies among its ways. -/
def needX : List (E × (Nat × Nat)) → List B
  | [] => []
  | (e, _, n) :: ix => mkLe (.lit 0) e :: mkLt e (.lit n) :: needX ix
def needV : SV → List B
  | .ptx _ _ ix => needX ix
  | .rptr n e _ _ => [mkLe (.lit 0) e, mkLt e (.slen n)]
  | _ => []
noncomputable def storeSV (c : Ctx) (mem : Mem) (t : TypeId) (a x : SV) : Option (Nat × List SV) :=
  match a with
  | .ptr b off =>
    (match Nat.ble c.ro b, mget b mem, sizeT c.P t with
    | true, some cs, some n => (match decide (x.cellsL.length = n) && allOne x.cellsL, putSV cs off x.cellsL with | true, some l => some (b, l) | _, _ => none)
    | _, _, _ => none)
  | .ptx b off ix =>
    (match Nat.ble c.ro b, mget b mem, sizeT c.P t with
    | true, some cs, some n => (match decide (x.cellsL.length = n) && allOne x.cellsL, selStore x.cellsL ix cs off (.lit true) with | true, some l => some (b, l) | _, _ => none)
    | _, _, _ => none)
  | _ => none

/-- The parts of a value that is built. -/
noncomputable def fillSV (place : Nat → Option (Nat × Nat)) (cells : List SV) : List (Nat × SV) → Option (List SV)
  | [] => some cells
  | (i, v) :: rest =>
    match place i with
    | none => none
    | some (off, size) => if v.cellsL.length = size ∧ v.isAny = false then (match putSV cells off v.cellsL with | some l => fillSV place l rest | none => none) else none

noncomputable def evalO (s : List SV) : Operand → Option SV
  | .tmp t => some ((nthSV s t).getD uninit)
  | .const v => ofValue v
  | .global g => some (.gptr g 0)
  | .func f => some (.func (.func f) [] [])
noncomputable def evalOs (s : List SV) : List Operand → Option (List SV)
  | [] => some []
  | x :: xs => match evalO s x, evalOs s xs with | some v, some vs => some (v :: vs) | _, _ => none
noncomputable def evalPs (s : List SV) : List (Nat × Operand) → Option (List (Nat × SV))
  | [] => some []
  | (i, x) :: xs => match evalO s x, evalPs s xs with | some v, some vs => some ((i, v) :: vs) | _, _ => none

/-- x == y, of structs: field by field. -/
noncomputable def eqFs (P : Program) (eq : TypeId → SV → SV → Option B) (xs ys : List SV) : List Field → Option B
  | [] => some (.lit true)
  | f :: fs =>
    match f.name == "_", partSV P f.type xs f.offset, partSV P f.type ys f.offset with
    | false, some a, some b => (match eq f.type a b, eqFs P eq xs ys fs with | some p, some q => some (mkAnd p q) | _, _ => none)
    | _, _, _ => none
noncomputable def eqEs (P : Program) (eq : TypeId → SV → SV → Option B) (e : TypeId) (m : Nat) (xs ys : List SV) : Nat → Nat → Option B
  | 0, _ => some (.lit true)
  | n + 1, i =>
    match partSV P e xs (i * m), partSV P e ys (i * m) with
    | some a, some b => (match eq e a b, eqEs P eq e m xs ys n (i + 1) with | some p, some q => some (mkAnd p q) | _, _ => none)
    | _, _ => none
/-- x == y, of a type, as deep as that. -/
noncomputable def eqT (P : Program) : Nat → TypeId → SV → SV → Option B
  | 0, _, _, _ => none
  | d + 1, t, x, y =>
    match P.underlying t, x, y with
    | some (.struct fs), .agg xs, .agg ys => (match P.stoodInHeld t with | false => eqFs P (eqT P d) xs ys fs.toList | true => none)
    | some (.array n e), .agg xs, .agg ys => (match sizeT P e with | some m => eqEs P (eqT P d) e m xs ys n 0 | none => none)
    | some (.int _), .int k a, .int k' b => (match eqK k k' with | true => some (mkEq a b) | false => none)
    | some .bool, .bool a, .bool b => some (mkBeq a b)
    | _, _, _ => none

/-! ### What is reckoned is written out at once (each 'fc x k' is 'k x') -/
noncomputable def fcN {α : Type} (n : Nat) (k : Nat → α) : α := Nat.rec (motive := fun _ => α) (k 0) (fun m _ => k (Nat.succ m)) n
noncomputable def fcI {α : Type} (z : Int) (k : Int → α) : α := Int.casesOn (motive := fun _ => α) z (fun n => fcN n fun n => k (.ofNat n)) (fun n => fcN n fun n => k (.negSucc n))
noncomputable def fcE {α : Type} (e : E) (k : E → α) : α :=
  match e with
  | .lit z => fcI z fun z => k (.lit z)
  | .var n => k (.var n)
  | .bin op q a b => k (.bin op q a b)
  | .wrap q a => k (.wrap q a)
  | .mx a b => k (.mx a b)
  | .mn a b => k (.mn a b)
  | .ite c a b => k (.ite c a b)
  | .slen n => k (.slen n)
  | .app f a => k (.app f a)
noncomputable def fcB {α : Type} (b : B) (k : B → α) : α :=
  match b with
  | .lit b => Bool.casesOn (motive := fun _ => α) b (k (.lit false)) (k (.lit true))
  | .var n => k (.var n)
  | .lt a b => k (.lt a b)
  | .le a b => k (.le a b)
  | .eq a b => k (.eq a b)
  | .not a => k (.not a)
  | .and a b => k (.and a b)
  | .or a b => k (.or a b)
  | .beq a b => k (.beq a b)
  | .ite c a b => k (.ite c a b)
/-- The strides of a place. -/
noncomputable def fcX {α : Type} (l : List (E × (Nat × Nat))) (k : List (E × (Nat × Nat)) → α) : α :=
  List.rec (motive := fun _ => (List (E × (Nat × Nat)) → α) → α) (fun k => k []) (fun x _ ih k => fcE x.1 fun e => fcN x.2.1 fun m => fcN x.2.2 fun n => ih fun l => k ((e, m, n) :: l)) l k
noncomputable def fcV {α : Type} (v : SV) (k : SV → α) : α :=
  SV.rec (motive_1 := fun _ => (SV → α) → α) (motive_2 := fun _ => (List SV → α) → α)
    (fun q e k => fcE e fun e => k (.int q e)) (fun b k => fcB b fun b => k (.bool b)) (fun b off k => fcN b fun b => fcN off fun off => k (.ptr b off)) (fun b off ix k => fcN b fun b => fcN off fun off => fcX ix fun ix => k (.ptx b off ix)) (fun b off k => fcN off fun off => k (.gptr b off))
    (fun k => k .nilptr) (fun b off len cap k => fcN b fun b => fcN off fun off => fcN len fun len => fcN cap fun cap => k (.slice b off len cap)) (fun k => k .nilslice) (fun n k => k (.slc n))
    (fun fn _ _ a b k => a fun a => b fun b => k (.func fn a b)) (fun k => k .nilfunc) (fun k => k .nilif) (fun s k => k (.str s)) (fun n k => k (.opq n)) (fun _ a k => a fun a => k (.agg a)) (fun _ a k => a fun a => k (.tup a))
    (fun n e m off k => fcE e fun e => fcN m fun m => fcN off fun off => k (.rptr n e m off)) (fun n k => fcN n fun n => k (.any n))
    (fun k => k []) (fun _ _ a b k => a fun v => b fun vs => k (v :: vs)) v k
noncomputable def fcL {α : Type} (l : List SV) (k : List SV → α) : α := List.rec (motive := fun _ => (List SV → α) → α) (fun k => k []) (fun v _ ih k => fcV v fun v => ih fun vs => k (v :: vs)) l k
/-- The spine alone. -/
noncomputable def fcS {α β : Type} (l : List β) (k : List β → α) : α := List.rec (motive := fun _ => (List β → α) → α) (fun k => k []) (fun v _ ih k => ih fun vs => k (v :: vs)) l k
/-- The list with x in place n, written out. -/
noncomputable def setK {α : Type} (l : List SV) (n : Nat) (x : SV) (k : List SV → α) : α :=
  List.rec (motive := fun _ => Nat → (List SV → α) → α) (fun _ k => k []) (fun v vs ih n k => Nat.rec (motive := fun _ => α) (k (x :: vs)) (fun n _ => ih n (fun l => k (v :: l))) n) l n k
noncomputable def putK {α : Type} (dst : Option Tmp) (v : SV) (s : List SV) (k : List SV → α) : α := match dst with | some d => setK s d v k | none => k s
/-- The memory with a block's cells turned, written out. -/
noncomputable def msetK {α : Type} (b : Nat) (cs : List SV) (m : Mem) (k : Mem → α) : α :=
  List.rec (motive := fun _ => (Mem → α) → α) (fun k => k []) (fun x m ih k => Bool.rec (ih (fun m => k (x :: m))) (k ((x.1, cs) :: m)) (Nat.beq x.1 b)) m k

/-! ### One operation -/

def T.opt {α β : Type} (o : Option α) (k : α → T β) : T β := match o with | some a => k a | none => .fail "opt"
def T.chk {β : Type} (b : Bool) (k : T β) : T β := match b with | true => k | false => .fail "chk"
def valT (v : SV) : T R := .leaf (.val v)

def placesT (P : Program) : List Field → Option (List (Nat × Nat))
  | [] => some []
  | f :: fs => match sizeT P f.type, placesT P fs with | some n, some l => some ((f.offset, n) :: l) | _, _ => none
def nthP : List (Nat × Nat) → Nat → Option (Nat × Nat)
  | [], _ => none
  | v :: _, 0 => some v
  | _ :: vs, n + 1 => nthP vs n
def timesSV : Nat → List SV → List SV
  | 0, _ => []
  | n + 1, z => z ++ timesSV n z

def isCmp : BinOp → Bool
  | .eql | .neq | .lss | .leq | .gtr | .geq => true
  | _ => false
def cmpB (op : BinOp) (x y : E) : B :=
  match op with
  | .eql => mkEq x y
  | .neq => mkNot (mkEq x y)
  | .lss => mkLt x y
  | .leq => mkLe x y
  | .gtr => mkLt y x
  | _ => mkLe y x
/-- x == y or x != y of what are no numbers. -/
noncomputable def eqSV (c : Ctx) (t : TypeId) : SV → SV → Option B
  | .bool a, .bool b => (match c.P.underlying t with | some .bool => some (mkBeq a b) | _ => none)
  | .agg xs, .agg ys => (match c.P.eqGuardType c.P.depth t with | false => eqT c.P 30 t (.agg xs) (.agg ys) | true => none)
  | .nilptr, .nilptr => (match c.P.underlying t with | some (.pointer _) => some (.lit true) | _ => none)
  | .ptr _ _, .nilptr => (match c.P.underlying t with | some (.pointer _) => some (.lit false) | _ => none)
  | .nilslice, .nilslice => (match c.P.underlying t with | some (.slice _) => some (.lit true) | _ => none)
  | .slice _ _ _ _, .nilslice => (match c.P.underlying t with | some (.slice _) => some (.lit false) | _ => none)
  | _, _ => none
noncomputable def binSV (c : Ctx) (l : Asm) (op : BinOp) (t : TypeId) (x y : SV) : T R :=
  match x, y with
  | .int k a, .int k' b =>
    match op with
    | .shl | .shr => T.mustK l (mkLe (.lit 0) b) (valT (.int k (mkBin op k a b)))
    | .quo | .rem => T.chk (decide (k = k')) (T.mustK l (mkNot (mkEq b (.lit 0))) (valT (.int k (mkBin op k a b))))
    | op => T.chk (decide (k = k')) (if isCmp op then valT (.bool (cmpB op a b)) else valT (.int k (mkBin op k a b)))
  | x, y =>
    match op with
    | .eql => T.opt (eqSV c t x y) fun q => valT (.bool q)
    | .neq => T.opt (eqSV c t x y) fun q => valT (.bool (mkNot q))
    | _ => .fail "binOp"
def unSV (op : UnOp) (x : SV) : T R :=
  match op, x with
  | .neg, .int k a => valT (.int k (mkBin .sub k (.lit 0) a))
  | .xor, .int k a => valT (.int k (mkBin .xor k (.lit (if k.signed then -1 else k.max)) a))
  | .not, .bool b => valT (.bool (mkNot b))
  | _, _ => .fail "unOp"
/-- A literal bound. -/
noncomputable def bound (s : List SV) (d : Nat) : Option Operand → Option Nat
  | none => some d
  | some x => match evalO s x with
    | some (.int _ (.lit z)) => if 0 ≤ z then some z.toNat else none
    | _ => none
def callable (P : Program) (g : Nat) : Bool :=
  match P.funcs[g]? with
  | some fn => fn.body.isSome && !(fn.name == "runtime.NumGoroutine")
  | none => false
def foldMx : E → IntKind → List SV → Option E
  | e, _, [] => some e
  | e, k, .int _ a :: l => foldMx (mkMx e a) k l
  | _, _, _ => none
def foldMn : E → IntKind → List SV → Option E
  | e, _, [] => some e
  | e, k, .int _ a :: l => foldMn (mkMn e a) k l
  | _, _, _ => none
def lenSV (P : Program) (t : TypeId) (x : SV) : Option E :=
  match P.underlying t, x with
  | some (.array n _), _ => some (.lit n)
  | some (.slice _), .slice _ _ n _ => some (.lit n)
  | some (.slice _), .nilslice => some (.lit 0)
  | some (.slice _), .slc i => some (.slen i)
  | _, _ => none

noncomputable def opMove (s : List SV) (x : Operand) : T R := T.opt (evalO s x) fun v => valT v
noncomputable def opPick (asm : Asm) (s : List SV) (q a b : Operand) : T R :=
  T.opt (evalO s q) fun q => T.opt (evalO s a) fun a => T.opt (evalO s b) fun b =>
    (match q with
    | .bool q => T.ifK asm q (valT a) (valT b)
    | _ => .fail "pick")
noncomputable def opAlloc (c : Ctx) (nxt : Nat) (t : TypeId) : T R := T.opt (zeroT c.P t) fun z => .leaf (.new (.ptr nxt 0) z.cellsL)
noncomputable def opBox (nxt : Nat) (s : List SV) (x : Operand) : T R := T.opt (evalO s x) fun v => T.chk (!v.isAny) (.leaf (.new (.ptr nxt 0) v.cellsL))
noncomputable def opBuild (c : Ctx) (s : List SV) (t : TypeId) (ps : Array (Nat × Operand)) : T R :=
  T.opt (evalPs s ps.toList) fun ps => T.opt (zeroT c.P t) fun z =>
    (match c.P.underlying t with
    | some (.struct fs) => T.opt (placesT c.P fs.toList) fun pl => T.opt (fillSV (nthP pl) z.cellsL ps) fun l => valT (.agg l)
    | some (.array _ e) => T.opt (sizeT c.P e) fun m => T.opt (fillSV (fun i => some (i * m, m)) z.cellsL ps) fun l => valT (.agg l)
    | _ => .fail "build")
noncomputable def opBuildSlice (c : Ctx) (nxt : Nat) (s : List SV) (t : TypeId) (n : Nat) (ps : Array (Nat × Operand)) : T R :=
  T.opt (evalPs s ps.toList) fun ps =>
    (match c.P.underlying t with
    | some (.slice e) => T.opt (sizeT c.P e) fun m => T.opt (zeroT c.P e) fun z =>
      T.chk (decide (0 < n * m) && decide (n * m ≤ 2 ^ 24) && decide (z.cellsL.length = m)) (T.opt (fillSV (fun i => some (i * m, m)) (timesSV n z.cellsL) ps) fun l => .leaf (.new (.slice nxt 0 n n) l))
    | _ => .fail "buildSlice")
noncomputable def opLoad (c : Ctx) (asm : Asm) (mem : Mem) (s : List SV) (t : TypeId) (x : Operand) : T R := T.opt (evalO s x) fun a => T.needs asm (needV a) (T.opt (loadSV c mem t a) fun v => valT v)
noncomputable def opStore (c : Ctx) (asm : Asm) (mem : Mem) (s : List SV) (t : TypeId) (x y : Operand) : T R :=
  T.opt (evalO s x) fun a => T.opt (evalO s y) fun v => T.needs asm (needV a) (T.opt (storeSV c mem t a v) fun (b, l) => .leaf (.sto b l))
noncomputable def opNilCheck (s : List SV) (x : Operand) : T R :=
  T.opt (evalO s x) fun a =>
    (match a with
    | .ptr b o => valT (.ptr b o)
    | .gptr b o => valT (.gptr b o)
    | _ => .fail "nilCheck")
noncomputable def opBin (c : Ctx) (asm : Asm) (s : List SV) (op : BinOp) (t : TypeId) (x y : Operand) : T R := T.opt (evalO s x) fun a => T.opt (evalO s y) fun b => binSV c asm op t a b
noncomputable def opUn (s : List SV) (op : UnOp) (x : Operand) : T R := T.opt (evalO s x) fun a => unSV op a
noncomputable def opConvert (c : Ctx) (s : List SV) (src dst : TypeId) (x : Operand) : T R :=
  T.opt (evalO s x) fun a => T.opt (c.P.underlying src) fun _ =>
    (match c.P.underlying dst, a with
    | some (.int k), .int _ e => valT (.int k (mkWrap k e))
    | _, _ => .fail "convert")
noncomputable def opMakeFunc (s : List SV) (fn : Fn) (first captured : Array Operand) : T R := T.opt (evalOs s first.toList) fun a => T.opt (evalOs s captured.toList) fun b => valT (.func fn a b)
noncomputable def opSlice (c : Ctx) (s : List SV) (t : TypeId) (x : Operand) (lo hi : Option Operand) : T R :=
  T.opt (evalO s x) fun a =>
    (match c.P.underlying t, a with
    | some (.array n e), .ptr b off => T.opt (sizeT c.P e) fun m => T.opt (bound s 0 lo) fun l => T.opt (bound s n hi) fun h =>
      T.chk (decide (l ≤ h) && decide (h ≤ n)) (valT (.slice b (if n = l then off else off + l * m) (h - l) (n - l)))
    | some (.slice e), .slice b off len cap => T.opt (sizeT c.P e) fun m => T.opt (bound s 0 lo) fun l => T.opt (bound s len hi) fun h =>
      T.chk (decide (l ≤ h) && decide (h ≤ cap)) (valT (.slice b (if cap = l then off else off + l * m) (h - l) (cap - l)))
    | _, _ => .fail "slice")
noncomputable def opFieldAddr (c : Ctx) (asm : Asm) (s : List SV) (t : TypeId) (x : Operand) (f : Nat) : T R :=
  T.opt (evalO s x) fun a =>
    (match c.P.underlying t with
    | some (.struct fs) => T.opt (fs[f]?) fun fd => T.opt (sizeT c.P fd.type) fun m => T.chk (decide (m ≠ 0))
      (match a with
      | .ptr b off => valT (.ptr b (off + fd.offset))
      | .gptr b off => valT (.gptr b (off + fd.offset))
      | .ptx b off ix => valT (.ptx b (off + fd.offset) ix)
      | .rptr n e m off => T.opt (rowOf n c.rows) fun _ => T.needs asm [mkLe (.lit 0) e, mkLt e (.slen n)] (valT (.rptr n e m (off + fd.offset)))
      | _ => .fail "fieldAddr")
    | _ => .fail "fieldAddr")
noncomputable def opField (c : Ctx) (s : List SV) (t : TypeId) (x : Operand) (f : Nat) : T R :=
  T.opt (evalO s x) fun a =>
    (match c.P.underlying t, a with
    | some (.struct fs), .agg cs => T.opt (fs[f]?) fun fd => T.opt (partSV c.P fd.type cs fd.offset) fun v => valT v
    | _, _ => .fail "field")
def snocX (l : List (E × (Nat × Nat))) (x : E × (Nat × Nat)) : List (E × (Nat × Nat)) := l ++ [x]
/-- The place of element e of n, each m cells great. -/
noncomputable def atIx (asm : Asm) (e : E) (n m : Nat) (a : SV) : T R :=
  match e with
  | .lit z => T.chk (decide (0 ≤ z) && decide (z < n)) (match a with
    | .ptr b off => valT (.ptr b (off + z.toNat * m))
    | .gptr b off => valT (.gptr b (off + z.toNat * m))
    | .ptx b off ix => valT (.ptx b (off + z.toNat * m) ix)
    | _ => .fail "atIx")
  | e => T.needs asm [mkLe (.lit 0) e, mkLt e (.lit n)] (match a with
    | .ptr b off => valT (.ptx b off [(e, m, n)])
    | .ptx b off ix => valT (.ptx b off (snocX ix (e, m, n)))
    | _ => .fail "atIx")
noncomputable def opIndexAddr (c : Ctx) (asm : Asm) (s : List SV) (t : TypeId) (x ix : Operand) : T R :=
  T.opt (evalO s x) fun a => T.opt (evalO s ix) fun i =>
    (match i with
    | .int _ e =>
      (match c.P.underlying t, a with
      | some (.array n el), .rptr r e' m' off => T.opt (sizeT c.P el) fun m =>
        (match e with
        | .lit z => T.chk (decide (0 ≤ z) && decide (z < n)) (T.opt (rowOf r c.rows) fun _ => T.needs asm [mkLe (.lit 0) e', mkLt e' (.slen r)] (valT (.rptr r e' m' (off + z.toNat * m))))
        | _ => .fail "indexAddr")
      | some (.array n el), a => T.opt (sizeT c.P el) fun m => atIx asm e n m a
      | some (.slice el), .slice b off n _ => T.opt (sizeT c.P el) fun m => atIx asm e n m (.ptr b off)
      | some (.slice el), .slc n => T.opt (sizeT c.P el) fun m => T.opt (rowOf n c.rows) fun ks => T.chk (Nat.beq ks.length m) (T.needs asm [mkLe (.lit 0) e, mkLt e (.slen n)] (valT (.rptr n e m 0)))
      | _, _ => .fail "indexAddr")
    | _ => .fail "indexAddr")
noncomputable def opIndex (c : Ctx) (asm : Asm) (s : List SV) (t : TypeId) (x ix : Operand) : T R :=
  T.opt (evalO s x) fun a => T.opt (evalO s ix) fun i =>
    (match i, a, c.P.underlying t with
    | .int _ e, .agg cs, some (.array n el) => T.opt (sizeT c.P el) fun m =>
      (match e with
      | .lit z => T.chk (decide (0 ≤ z) && decide (z < n)) (T.opt (partSV c.P el cs (z.toNat * m)) fun v => valT v)
      | e => T.needs asm [mkLe (.lit 0) e, mkLt e (.lit n)] (T.opt (selLoad c.P el cs [(e, m, n)] 0) fun v => valT v))
    | _, _, _ => .fail "index")
noncomputable def opExtract (s : List SV) (x : Operand) (i : Nat) : T R :=
  T.opt (evalO s x) fun a =>
    (match a with
    | .tup vs => T.opt (nthSV vs i) fun v => valT v
    | _ => .fail "extract")
noncomputable def opCallV (c : Ctx) (s : List SV) (f : Operand) (args : Array Operand) : T R :=
  T.opt (evalO s f) fun f => T.opt (evalOs s args.toList) fun vs =>
    (match f with
    | .func (.func g) first captured => T.chk (callable c.P g) (.leaf (.enter g (first ++ vs ++ captured)))
    | _ => .fail "call")
noncomputable def opLen (c : Ctx) (s : List SV) (args : Array Operand) (ts : Array TypeId) : T R :=
  T.opt (evalOs s args.toList) fun vs => T.opt (ts[0]?) fun t =>
    (match vs with
    | [x] => T.opt (lenSV c.P t x) fun e => valT (.int .i64 e)
    | _ => .fail "len")
noncomputable def opMax (s : List SV) (args : Array Operand) : T R :=
  T.opt (evalOs s args.toList) fun vs =>
    (match vs with
    | .int k a :: l => T.opt (foldMx a k l) fun e => valT (.int k e)
    | _ => .fail "max")
noncomputable def opMin (s : List SV) (args : Array Operand) : T R :=
  T.opt (evalOs s args.toList) fun vs =>
    (match vs with
    | .int k a :: l => T.opt (foldMn a k l) fun e => valT (.int k e)
    | _ => .fail "min")
noncomputable def opCall (c : Ctx) (s : List SV) (q : Callee) (args : Array Operand) (ts : Array TypeId) : T R :=
  match q with
  | .value f => opCallV c s f args
  | .builtin .len => opLen c s args ts
  | .builtin .max => opMax s args
  | .builtin .min => opMin s args
  | _ => .fail "op"

noncomputable def opStep (c : Ctx) (asm : Asm) (nxt : Nat) (mem : Mem) (s : List SV) (op : Op) : T R :=
  match op with
  | .move x => opMove s x
  | .assign x => opMove s x
  | .pick q a b => opPick asm s q a b
  | .alloc t => opAlloc c nxt t
  | .box _ x => opBox nxt s x
  | .build t ps => opBuild c s t ps
  | .buildSlice t n ps => opBuildSlice c nxt s t n ps
  | .load t x => opLoad c asm mem s t x
  | .store t x y => opStore c asm mem s t x y
  | .nilCheck x => opNilCheck s x
  | .binOp op t x y _ => opBin c asm s op t x y
  | .unOp op _ x => opUn s op x
  | .convert src dst x => opConvert c s src dst x
  | .makeFunc fn first captured => opMakeFunc s fn first captured
  | .slice t x lo hi none => opSlice c s t x lo hi
  | .fieldAddr t x f => opFieldAddr c asm s t x f
  | .field t x f => opField c s t x f
  | .indexAddr t x ix => opIndexAddr c asm s t x ix
  | .index t x ix => opIndex c asm s t x ix
  | .extract x i => opExtract s x i
  | .call q => opCall c s q.callee q.args q.argTypes
  | _ => .fail "op"

/-! ### A region, code, a call -/

def nthOp : List Oper → Nat → Option Oper
  | [], _ => none
  | v :: _, 0 => some v
  | _ :: vs, n + 1 => nthOp vs n
/-- Is the operation wanted? Where that hangs on an unknown truth: both ways, and the truth is known from then on. -/
noncomputable def guardT {α : Type} (ops : List Oper) (o : Oper) (s : St) (k : Bool → St → T α) : T α :=
  match o.guard with
  | none => k true s
  | some (j, want) =>
    match nthOp ops j with
    | some oj =>
      match oj.dst with
      | some d =>
        match nthSV s.tmps d with
        | some (.bool q) => T.ifA s.asm q
          (fun l => setK s.tmps d (.bool (.lit true)) fun t => k (true == want) { s with tmps := t, asm := l })
          (fun l => setK s.tmps d (.bool (.lit false)) fun t => k (false == want) { s with tmps := t, asm := l })
        | some (.tup []) => k false s
        | _ => .fail "guard"
      | none => k false s
    | none => k false s

mutual
def SV.under (n : Nat) : SV → Bool
  | .ptr b _ => decide (b < n)
  | .ptx b _ _ => decide (b < n)
  | .opq b => decide (b < n)
  | .slice b _ _ _ => decide (b < n)
  | .any b => decide (b < n)
  | .func _ first captured => SV.underL n first && SV.underL n captured
  | .agg cs => SV.underL n cs
  | .tup vs => SV.underL n vs
  | _ => true
def SV.underL (n : Nat) : List SV → Bool
  | [] => true
  | v :: vs => SV.under n v && SV.underL n vs
end

abbrev CallFn := Ctx → Nat → List SV → Mem → Nat → Asm → T (SV × Mem × Nat × Asm)

def Ex.isNormal : Exit → Bool | .normal => true | _ => false

abbrev ConFn := List SV → Nat → Option (SV × Nat)
noncomputable def conOf (g : Nat) (l : List (Nat × ConFn)) : Option ConFn :=
  List.rec (motive := fun _ => Option ConFn) none (fun x _ ih => Bool.rec ih (some x.2) (Nat.beq x.1 g)) l
def openIn (g : Nat) : List Nat → Bool
  | [] => false
  | x :: l => Nat.beq x g || openIn g l
/-- A call that leaves all known memory as it is, and whose answer is one value. -/
noncomputable def callQ (call : CallFn) (c : Ctx) (g : Nat) (args : List SV) (mem : Mem) (nxt : Nat) (asm : Asm) (k : SV → T St) : T St :=
  match conOf g c.con with
  | some f => T.opt (f args nxt) fun r => T.chk (Nat.beq r.2 nxt && r.1.under nxt) (fcV r.1 k)
  | none => T.opt (mergeT ((call { c with ro := nxt } g args mem nxt asm).bind fun x => .leaf x.1)) fun x => T.needs asm x.1 (fcV x.2 fun v => T.chk (v.under nxt) (k v))
noncomputable def callO (call : CallFn) (c : Ctx) (g : Nat) (args : List SV) (s : St) (k : SV → St → T St) : T St :=
  match openIn g c.open_ with
  | true => (call c g args s.mem s.nxt s.asm).bind fun (v, m, n, l) => fcV v fun v => k v { s with mem := m, nxt := n, asm := l }
  | false =>
    match conOf g c.con with
    | some f => T.opt (f args s.nxt) fun r => T.chk (Nat.ble s.nxt r.2) (fcV r.1 fun v => fcN r.2 fun n => k v { s with nxt := n })
    | none => callQ call c g args s.mem s.nxt s.asm fun v => k v s
noncomputable def nextOp (o : Oper) (s : St) (call : CallFn) (c : Ctx) (k : St → T St) (r : R) : T St :=
  match r with
  | .val v => fcV v fun v => putK o.dst v s.tmps fun t => k { s with tmps := t }
  | .new v cs => fcN (s.nxt + 1) fun n => fcV v fun v => fcL cs fun cs => putK o.dst v s.tmps fun t => k { tmps := t, mem := (s.nxt, cs) :: s.mem, nxt := n, asm := s.asm }
  | .sto b cs => T.chk (Nat.ble c.ro b) (T.opt (mget b s.mem) fun _ => fcL cs fun cs => msetK b cs s.mem fun m => putK o.dst uninit s.tmps fun t => k { s with tmps := t, mem := m })
  | .enter g args => fcL args fun args => callO call c g args s fun v s => putK o.dst v s.tmps fun t => k { s with tmps := t }
noncomputable def oneOp (call : CallFn) (c : Ctx) (ops : List Oper) (o : Oper) (k : St → T St) (s : St) : T St :=
  guardT ops o s fun want s =>
    match want with
    | true => (opStep c s.asm s.nxt s.mem s.tmps o.op).bind (nextOp o s call c k)
    | false => putK o.dst uninit s.tmps fun t => k { s with tmps := t }
/-- The operations of a region, in the order of the text. -/
noncomputable def execOps (call : CallFn) (c : Ctx) (ops l : List Oper) (s : St) : T St :=
  List.rec (motive := fun _ => St → T St) (fun s => .leaf s) (fun o _ ih s => oneOp call c ops o ih s) l s

/-- What a drawn region may hold, beside stores. -/
def quietOp : Op → Bool
  | .move _ | .assign _ | .pick .. | .build .. | .nilCheck _ | .binOp .. | .unOp .. | .convert .. | .makeFunc .. | .slice .. | .fieldAddr .. | .field .. | .indexAddr .. | .index .. | .extract .. | .call { callee := .builtin _, args := _, argTypes := _ } => true
  | _ => false

noncomputable def nextD0 (o : Oper) (s : St) (k : St → T St) (r : R) : T St :=
  match r with
  | .val v => fcV v fun v => putK o.dst v s.tmps fun t => k { s with tmps := t }
  | _ => .fail "draw"
noncomputable def nextD1 (o : Oper) (s : St) (call : CallFn) (c : Ctx) (k : St → T St) (r : R) : T St :=
  match r with
  | .val v => fcV v fun v => putK o.dst v s.tmps fun t => k { s with tmps := t }
  | .enter g args => fcL args fun args => callQ call c g args s.mem s.nxt s.asm fun v => putK o.dst v s.tmps fun t => k { s with tmps := t }
  | _ => .fail "draw"
noncomputable def nextD2 (o : Oper) (s : St) (c : Ctx) (k : St → T St) (r : R) : T St :=
  match r with
  | .sto b cs => T.chk (Nat.ble c.ro b) (T.opt (mget b s.mem) fun _ => fcL cs fun cs => msetK b cs s.mem fun m => putK o.dst uninit s.tmps fun t => k { s with tmps := t, mem := m })
  | _ => .fail "draw"
/-- What each operation of a region that draws counts as: a load that some store is not ordered with counts as one that looks at nothing (then its block must be none that is stored to). -/
def freeLoad (op : Op) : Bool := match op with | .load .. => true | _ => false
def ordB (b : List Nat) (i j : Nat) : Bool := (b.getD i 0).testBit j || (b.getD j 0).testBit i
def kindAt (ops : List Oper) (b : List Nat) (i : Nat) (o : Oper) : Nat :=
  match freeLoad o.op with
  | true => if (List.range ops.length).all (fun j => match ops[j]? with | some p => !(opKind p.op == 2) || ordB b i j | none => true) then 1 else 0
  | false => opKind o.op
def kindsOf (ops : List Oper) : List Nat :=
  let b := befL ops []
  (List.range ops.length).map fun i => match ops[i]? with | some o => kindAt ops b i o | none => 0
noncomputable def nthN (l : List Nat) (n : Nat) : Nat :=
  List.rec (motive := fun _ => Nat → Nat) (fun _ => 0) (fun v _ ih n => Nat.rec (motive := fun _ => Nat) v (fun n _ => ih n) n) l n
def memN (b : Nat) : List Nat → Bool
  | [] => false
  | x :: l => Nat.beq x b || memN b l
def apartN (S : List Nat) : List Nat → Bool
  | [] => true
  | x :: l => !memN x S && apartN S l

def stoOf (r : R) (S : List Nat) : List Nat := match r with | .sto b _ => b :: S | _ => S
noncomputable def freeD (c : Ctx) (o : Oper) (L S : List Nat) (k : List Nat → List Nat → St → T St) (s : St) : T St :=
  match o.op with
  | .load t x => T.opt (evalO s.tmps x) fun a =>
    (match a with
    | .ptr b off => T.opt (mget b s.mem) fun cs => T.opt (partSV c.P t cs off) fun v => fcV v fun v => putK o.dst v s.tmps fun tm => k (b :: L) S { s with tmps := tm }
    | _ => .fail "free")
  | op => T.chk (quietOp op) ((opStep c s.asm s.nxt s.mem s.tmps op).bind (nextD0 o s (k L S)))
noncomputable def oneD (call : CallFn) (c : Ctx) (ops : List Oper) (o : Oper) (kd : Nat) (L S : List Nat) (k : List Nat → List Nat → St → T St) (s : St) : T St :=
  guardT ops o s fun want s =>
    match want with
    | true =>
      (match kd with
      | 0 => freeD c o L S k s
      | 1 => (opStep c s.asm s.nxt s.mem s.tmps o.op).bind (nextD1 o s call c (k L S))
      | 2 => (opStep c s.asm s.nxt s.mem s.tmps o.op).bind fun r => nextD2 o s c (k L (stoOf r S)) r
      | _ => .fail "kind")
    | false => T.chk (!(Nat.beq kd 2)) (putK o.dst uninit s.tmps fun t => k L S { s with tmps := t })
/-- The same, of a region that draws its order. -/
noncomputable def execD (call : CallFn) (c : Ctx) (ops : List Oper) (kd : List Nat) (l : List Oper) (i : Nat) (L S : List Nat) (s : St) : T St :=
  List.rec (motive := fun _ => Nat → List Nat → List Nat → St → T St) (fun _ L S s => T.chk (apartN S L) (.leaf s)) (fun o _ ih i L S s => oneD call c ops o (nthN kd i) L S (ih (i + 1)) s) l i L S s

noncomputable def loopN (body : St → T (Exit × St)) (n : Nat) (s : St) : T (Exit × St) :=
  Nat.rec (motive := fun _ => St → T (Exit × St)) (fun _ => .fail "rounds") (fun _ ih s => (body s).bind fun (e, s) => match Ex.isNormal e with | true => ih s | false => .leaf (e, s)) n s

/-- A region's last two operations, where they make a variable and lay something in it. -/
def allocEnd : List Oper → Option (List Oper × Oper × Oper)
  | [] => none
  | x :: l =>
    match l with
    | [y] => (match x.op, x.guard, y.op, y.guard with | .alloc _, none, .store _ _ _, none => some ([], x, y) | _, _, _, _ => none)
    | l => match allocEnd l with | some (A, p, q) => some (x :: A, p, q) | none => none
noncomputable def nextA (o : Oper) (s : St) (k : St → T St) (r : R) : T St :=
  match r with
  | .new v cs => fcN (s.nxt + 1) fun n => fcV v fun v => fcL cs fun cs => putK o.dst v s.tmps fun t => k { tmps := t, mem := (s.nxt, cs) :: s.mem, nxt := n, asm := s.asm }
  | _ => .fail "alloc"
noncomputable def nextB (n : Nat) (o : Oper) (s : St) (c : Ctx) (r : R) : T St :=
  match r with
  | .sto b cs => T.chk (Nat.beq b n && Nat.ble c.ro b) (T.opt (mget b s.mem) fun _ => fcL cs fun cs => msetK b cs s.mem fun m => putK o.dst uninit s.tmps fun t => .leaf { s with tmps := t, mem := m })
  | _ => .fail "alloc"
def chkA (ops : List Oper) (n : Nat) (kd : Nat → Nat) : Bool :=
  ((befL ops []).getD (n + 1) 0).testBit n && ((List.range n).all (fun j => !Nat.beq (kd j) 2) && (!Nat.beq (kd n) 2 && Nat.beq (kd (n + 1)) 2))
/-- Such a region: what stands ahead only looks, and may be carried out behind the making. -/
noncomputable def codeRegionA (call : CallFn) (c : Ctx) (ops : Array Oper) (A : List Oper) (oa os : Oper) (s : St) : T (Exit × St) :=
  fcS (kindsOf ops.toList) fun kd => T.chk (commB ops (nthN kd) && chkA ops.toList A.length (nthN kd))
    (((execD call c ops.toList kd A 0 [] [] s).bind fun s1 => (opStep c s1.asm s1.nxt s1.mem s1.tmps oa.op).bind (nextA oa s1 fun s2 => (opStep c s2.asm s2.nxt s2.mem s2.tmps os.op).bind (nextB s1.nxt os s2 c))).bind fun s => .leaf (.normal, s))
noncomputable def codeRegion (call : CallFn) (c : Ctx) (ops : Array Oper) (draw : Bool) (s : St) : T (Exit × St) :=
  match draw with
  | false => (execOps call c ops.toList ops.toList s).bind fun s => .leaf (.normal, s)
  | true =>
    match allocEnd ops.toList with
    | some x => codeRegionA call c ops x.1 x.2.1 x.2.2 s
    | none => fcS (kindsOf ops.toList) fun kd => T.chk (commB ops (nthN kd)) ((execD call c ops.toList kd ops.toList 0 [] [] s).bind fun s => .leaf (.normal, s))
noncomputable def codeCond (q : Operand) (a b : St → T (Exit × St)) (s : St) : T (Exit × St) :=
  T.opt (evalO s.tmps q) fun v =>
    (match v with
    | .bool q => T.ifA s.asm q (fun l => a { s with asm := l }) (fun l => b { s with asm := l })
    | _ => .fail "cond")
def codeBlock (id : Nat) (x : Exit × St) : T (Exit × St) := match x.1 with | .exit id' => (if id' = id then .leaf (.normal, x.2) else .leaf x) | _ => .leaf x
def codeScope (x : Exit × St) : T (Exit × St) := match x.1 with | .goto _ => .fail "goto" | _ => .leaf x
def codeSeq (b : St → T (Exit × St)) (x : Exit × St) : T (Exit × St) := match Ex.isNormal x.1 with | true => b x.2 | false => .leaf x
def firstRid : Code → Nat
  | .region id _ _ => id
  | .seq a _ => firstRid a
  | .cond _ a _ => firstRid a
  | .block _ a => firstRid a
  | .loop a => firstRid a
  | .scope a => firstRid a
  | _ => 0
def loopsOf : Code → List Code
  | .seq a b => loopsOf a ++ loopsOf b
  | .cond _ a b => loopsOf a ++ loopsOf b
  | .block _ a => loopsOf a
  | .loop a => a :: loopsOf a
  | .scope a => loopsOf a
  | _ => []
noncomputable def execCode (call : CallFn) (c : Ctx) (n cur : Nat) (code : Code) (s : St) : T (Exit × St) :=
  Code.rec (motive := fun _ => St → T (Exit × St))
    (fun s => .leaf (.normal, s))
    (fun _ ops draw s => codeRegion call c ops draw s)
    (fun _ _ a b s => (a s).bind (codeSeq b))
    (fun q _ _ a b s => codeCond q a b s)
    (fun id _ a s => (a s).bind (codeBlock id))
    (fun x a s => match lpAt c cur (firstRid x) with | some F => F s | none => loopN a n s)
    (fun _ _ _ _ _ _ _ => .fail "rangeFunc")
    (fun id s => .leaf (.exit id, s))
    (fun _ a s => (a s).bind codeScope)
    (fun _ s => .leaf (.normal, s))
    (fun _ _ => .fail "goto")
    (fun s => .leaf (.ret, s))
    (fun _ _ => .fail "refuse")
    code s

noncomputable def resultSV (c : Ctx) (s : St) : ResultVar → Option SV
  | .tmp t => some ((nthSV s.tmps t).getD uninit)
  | .cell a t => match nthSV s.tmps a with | some (.ptr b off) => loadSV c s.mem t (.ptr b off) | _ => none
noncomputable def resultsSV (c : Ctx) (s : St) : List ResultVar → Option (List SV)
  | [] => some []
  | r :: rs => match resultSV c s r, resultsSV c s rs with | some v, some vs => some (v :: vs) | _, _ => none
def tupSV : List SV → SV
  | [v] => v
  | vs => .tup vs

noncomputable def callEnd (c : Ctx) (fn : Func) (x : Exit × St) : T (SV × Mem × Nat × Asm) :=
  match x.1 with
  | .normal => T.opt (resultsSV c x.2 fn.results.toList) fun vs => .leaf (tupSV vs, x.2.mem, x.2.nxt, x.2.asm)
  | .ret => T.opt (resultsSV c x.2 fn.results.toList) fun vs => .leaf (tupSV vs, x.2.mem, x.2.nxt, x.2.asm)
  | _ => .fail "exit"
noncomputable def callIn (call : CallFn) (n : Nat) (c : Ctx) (f : Nat) (args : List SV) (mem : Mem) (nxt : Nat) (asm : Asm) : T (SV × Mem × Nat × Asm) :=
  T.opt (c.P.funcs[f]?) fun fn => T.opt fn.body fun code =>
    (fcS (args ++ List.replicate (fn.ntmps - args.length) uninit) fun t => execCode call c n f code { tmps := t, mem, nxt, asm }).bind (callEnd c fn)
noncomputable def execCall (n d : Nat) : CallFn :=
  Nat.rec (motive := fun _ => CallFn) (fun _ _ _ _ _ _ => .fail "depth") (fun _ ih => callIn ih n) d

end Go.Proofs.YtjmpoiafcdphbaaSx
