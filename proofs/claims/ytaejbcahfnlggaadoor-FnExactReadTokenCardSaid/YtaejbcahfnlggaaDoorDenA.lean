import Derived.RowKit
import Derived.StillTail
namespace Go.Den
open Go.RowKit (wrap64)
/-! What a function comes to, read off its code: shapes, data, the walk over data (in the way of continuations). -/
inductive Sh where
  | int (k : IntKind) | bool | str | unit
  | list (t : Sh) | pair (a b : Sh)
  /-- a struct whose last field is a row of its like -/
  | rose (t : Sh)
  deriving DecidableEq

/-- a tree -/
structure Rose (α : Type) where
  node ::
  root : α
  kids : List (Rose α)

def sem : Sh → Type
  | .int _ => Int | .bool => Bool | .str => ByteArray | .unit => Unit
  | .list t => List (sem t) | .pair a b => sem a × sem b
  | .rose t => Rose (sem t)

def dflt : (t : Sh) → sem t
  | .int _ => (0 : Int) | .bool => false | .str => (⟨#[]⟩ : ByteArray) | .unit => ()
  | .list _ => [] | .pair a b => (dflt a, dflt b)
  | .rose t => .node (dflt t) []

/-- cells that a value of this shape takes -/
def Sh.size : Sh → Nat
  | .unit => 0 | .pair a b => a.size + b.size | .rose t => t.size + 1 | _ => 1
def Sh.isP : Sh → Bool
  | .unit => true | .pair _ _ => true | .rose _ => true | _ => false
/-- no list in it -/
def Sh.flat : Sh → Bool
  | .list _ => false | .rose _ => false | .pair a b => a.flat && b.flat | _ => true

def cast? (t t' : Sh) (x : sem t) : Option (sem t') := if h : t = t' then some (h ▸ x) else none

/-! ### leaves of the walk: what stands in the printed equations -/
/-- wrap64, shut (the kernel must not count with it) -/
noncomputable def w64 : Int → Int := Classical.choose (⟨wrap64, rfl⟩ : ∃ f : Int → Int, f = wrap64)
theorem w64_eq : w64 = wrap64 := Classical.choose_spec (⟨wrap64, rfl⟩ : ∃ f : Int → Int, f = wrap64)
noncomputable def wr (k : IntKind) (n : Int) : Int := match k with | .i64 => w64 n | k => k.wrap n
def bt (s : ByteArray) (i : Int) : Int := if h : i.toNat < s.size then ((s[i.toNat]'h).toNat : Int) else 0
def rd {α : Type} (z : α) (l : List α) (i : Int) : α := l.getD i.toNat z
def cut {α : Type} (l : List α) (a b : Int) : List α := (l.take b.toNat).drop a.toNat
def cutS (s : ByteArray) (a b : Int) : ByteArray := s.extract a.toNat b.toNat
def app {α : Type} (a b : List α) : List α := a ++ b
def appS (a b : ByteArray) : ByteArray := a ++ b
def put {α : Type} (l : List α) (i : Int) (x : α) : List α := l.set i.toNat x
def reps {α : Type} (n : Int) (x : α) : List α := List.replicate n.toNat x
def lenI {α : Type} (l : List α) : Int := (l.length : Int)
def sizeI (s : ByteArray) : Int := (s.size : Int)
def addI (a b : Int) : Int := a + b
def subI (a b : Int) : Int := a - b
def mulI (a b : Int) : Int := a * b
def quoI (a b : Int) : Int := a.tdiv b
def remI (a b : Int) : Int := a.tmod b
def bits (op : BinOp) (k : IntKind) (x y : Int) : Int :=
  let a := BitVec.ofInt k.bits x
  let b := BitVec.ofInt k.bits y
  k.wrap ((match op with | .and => a &&& b | .or => a ||| b | .xor => a ^^^ b | _ => a &&& ~~~b : BitVec k.bits).toNat : Int)
def shlI (k : IntKind) (x y : Int) : Int := k.wrap (x * 2 ^ (min y.toNat k.bits))
def shrI (k : IntKind) (x y : Int) : Int := x.fdiv (2 ^ (min y.toNat k.bits))
def utfB (l : List Int) : ByteArray := ⟨(l.map fun n => UInt8.ofNat n.toNat).toArray⟩
def bytesOf (s : ByteArray) : List Int := s.data.toList.map fun b => (b.toNat : Int)
def eqD : (t : Sh) → sem t → sem t → Bool
  | .int _, x, y => @decide ((x : Int) = (y : Int)) (Int.instDecidableEq x y)
  | .bool, x, y => @decide ((x : Bool) = (y : Bool)) (instDecidableEqBool x y)
  | .str, x, y => decide ((x : ByteArray).toList = (y : ByteArray).toList)
  | .unit, _, _ => true
  | .list _, _, _ => false
  | .rose _, _, _ => false
  | .pair a b, x, y => eqD a x.1 y.1 && eqD b x.2 y.2

def bnd {α β : Type} (o : Option α) (f : α → Option β) : Option β := o.bind f
/-- n places from a on made zero -/
def zap {α : Type} (z : α) (l : List α) (a n : Int) : List α := l.take a.toNat ++ (List.replicate n.toNat z ++ l.drop (a.toNat + n.toNat))
/-! maps, as rows of pairs -/
def mgetA {α β : Type} (eq : α → α → Bool) (z : β) : List (α × β) → α → β
  | [], _ => z | p :: l, x => if eq x p.1 = true then p.2 else mgetA eq z l x
def mhasA {α β : Type} (eq : α → α → Bool) : List (α × β) → α → Bool
  | [], _ => false | p :: l, x => eq x p.1 || mhasA eq l x
def mputA {α β : Type} (eq : α → α → Bool) : List (α × β) → α → β → List (α × β)
  | [], x, y => [(x, y)] | p :: l, x, y => if eq x p.1 = true then (p.1, y) :: l else p :: mputA eq l x y
def mget (k v : Sh) (l : List (sem k × sem v)) (x : sem k) : sem v := mgetA (eqD k) (dflt v) l x
def mhas (k v : Sh) (l : List (sem k × sem v)) (x : sem k) : Bool := mhasA (eqD k) l x
def mput (k v : Sh) (l : List (sem k × sem v)) (x : sem k) (y : sem v) : List (sem k × sem v) := mputA (eqD k) l x y
def del {α : Type} (l : List α) (i : Int) : List α := l.eraseIdx i.toNat
/-- the same for each number below n -/
noncomputable def allK {ω : Type} (n : Int) (K : Int → Option ω) : Option ω := by
  classical
  exact if h : ∃ r, 0 < n ∧ ∀ i : Int, 0 ≤ i → i < n → K i = some r then some h.choose else none

/-! ### conditions -/
inductive Cd where
  | tt | ff | bv (x : Bool)
  | ilt (a b : Int) | ile (a b : Int) | igt (a b : Int) | ige (a b : Int) | ieq (a b : Int)
  | seq (a b : ByteArray) | slt (a b : ByteArray) | sle (a b : ByteArray)
  | deq (t : Sh) (x y : sem t)
  | at (i : Int) (n : Int)            -- 0 ≤ i ∧ i < n
  | upto (a b n : Int)       -- 0 ≤ a ∧ a ≤ b ∧ b ≤ n
  | room (n m : Nat)    -- n ≤ m
  | no (c : Cd)

def Cd.val : Cd → Bool
  | .tt => true | .ff => false | .bv x => x
  | .ilt a b => decide (a < b) | .ile a b => decide (a ≤ b) | .igt a b => decide (a > b) | .ige a b => decide (a ≥ b) | .ieq a b => decide (a = b)
  | .seq a b => decide (a.toList = b.toList) | .slt a b => Op.bytesLess a.toList b.toList | .sle a b => Op.bytesLess a.toList b.toList || decide (a.toList = b.toList)
  | .deq t x y => eqD t x y
  | .at i n => decide (0 ≤ i ∧ i < n) | .upto a b n => decide (0 ≤ a ∧ a ≤ b ∧ b ≤ n) | .room n m => decide (n ≤ m)
  | .no c => !c.val
def Cd.not : Cd → Cd
  | .tt => .ff | .ff => .tt | .no c => c | c => .no c
/-- the branching, each in its own spelling -/
def eqB (a b : Bool) : Bool := a == b
def neB (a b : Bool) : Bool := a != b
def br {α : Type} : Cd → α → α → α
  | .tt, A, _ => A | .ff, _, B => B | .bv x, A, B => if x = true then A else B
  | .ilt a b, A, B => if a < b then A else B
  | .ile a b, A, B => if a ≤ b then A else B
  | .igt a b, A, B => if a > b then A else B
  | .ige a b, A, B => if a ≥ b then A else B
  | .ieq a b, A, B => if a = b then A else B
  | .seq a b, A, B => if a.toList = b.toList then A else B
  | .slt a b, A, B => if Op.bytesLess a.toList b.toList = true then A else B
  | .sle a b, A, B => if (Op.bytesLess a.toList b.toList || decide (a.toList = b.toList)) = true then A else B
  | .deq t x y, A, B => if eqD t x y = true then A else B
  | .at i n, A, B => if 0 ≤ i ∧ i < n then A else B
  | .upto a b n, A, B => if 0 ≤ a ∧ a ≤ b ∧ b ≤ n then A else B
  | .room n m, A, B => if n ≤ m then A else B
  | .no c, A, B => br c B A

/-! ### what a slot holds -/
inductive AV where
  | undef
  | c (c : Cd)
  | d (t : Sh) (x : sem t) (fr : Bool)
  | agg (l : List AV)
  | tup (l : List AV)
  | ptr (id off : Nat)
  | fp (t : Sh) (x : sem t) (off : Nat) (fr : Bool)
  | fb (l : List AV) (off : Nat)
  | ref (id : Nat)
  | nil
  | nilp
  | nilm
  | rp (id : Nat) (i : Int) (off : Nat)
  | fn (f : Nat) (caps : List AV)
  | itr (id : Nat)
  /-- a part of a row: n elements from a on -/
  | sub (id : Nat) (a n : Int)

inductive AO where
  | gone
  | box (l : List AV)
  | row (t : Sh) (l : List (sem t)) (fr : Bool)
  /-- a map: known to be made; st: 0 no loop over it yet, 1 one is on, 2 no more; what the loop has still to come to, and where it stands -/
  | map (k v : Sh) (nn : Bool) (l : List (sem k × sem v)) (st : Nat) (rem : List (sem k × sem v)) (cur : Option (sem k × sem v))

structure St where
  env : List AV
  mem : List AO
  /-- the first objects are the caller's: they keep their numbers -/
  pin : Nat

def mkD (t : Sh) (x : sem t) (fr : Bool) : AV := match t, x with | .bool, x => .c (.bv x) | t, x => .d t x fr
/-- a struct's cells -/
def leaves : (t : Sh) → sem t → Bool → List AV → List AV
  | .unit, _, _, r => r
  | .pair a b, x, fr, r => leaves a x.1 fr (leaves b x.2 fr r)
  | .rose t, x, fr, r => leaves t (Rose.root x) fr (.d (.list (.rose t)) (Rose.kids x) fr :: r)
  | t, x, fr, r => mkD t x fr :: r

def leaf (t : Sh) : AV → Option (sem t × Bool)
  | .c c => match t with | .bool => some (c.val, true) | _ => none
  | .nil => match t with | .list _ => some ([], true) | _ => none
  | .d t' x f => match cast? t' t x with | some y => some (y, f) | none => none
  | _ => none
def implode : (t : Sh) → List AV → Option (sem t × Bool × List AV)
  | .unit, l => some ((), true, l)
  | .pair a b, l => match implode a l with
    | some (x, f, l') => match implode b l' with
      | some (y, g, l'') => some ((x, y), f && g, l'')
      | none => none
    | none => none
  | .rose t, l => match implode t l with
    | some (x, f, v :: l') => match leaf (.list (.rose t)) v with
      | some (y, g) => some (Rose.node x y, f && g, l')
      | none => none
    | _ => none
  | t, v :: l => match leaf t v with | some (x, f) => some (x, f, l) | none => none
  | _, [] => none
def data (t : Sh) : AV → Option (sem t × Bool)
  | .agg l => if t.isP then (match implode t l with | some (x, f, []) => some (x, f) | _ => none) else none
  | v => leaf t v
/-- the part of shape t' that begins at cell off -/
def getAt : (t : Sh) → sem t → Nat → (t' : Sh) → Option (sem t')
  | t, x, off, t' => if off = 0 ∧ t = t' then cast? t t' x else match t, x with
    | .pair a b, x => if off < a.size then getAt a x.1 off t' else getAt b x.2 (off - a.size) t'
    | .rose t, x => if off < t.size then getAt t (Rose.root x) off t' else if off = t.size then cast? (.list (.rose t)) t' (Rose.kids x) else none
    | _, _ => none
def setAt : (t : Sh) → sem t → Nat → (t' : Sh) → sem t' → Option (sem t)
  | t, x, off, t', y => if off = 0 ∧ t = t' then cast? t' t y else match t, x with
    | .pair a b, x => if off < a.size then (match setAt a x.1 off t' y with | some z => some (z, x.2) | none => none)
      else (match setAt b x.2 (off - a.size) t' y with | some z => some (x.1, z) | none => none)
    | .rose t, x => if off < t.size then (match setAt t (Rose.root x) off t' y with | some z => some (Rose.node z (Rose.kids x)) | none => none)
      else if off = t.size then (match cast? t' (.list (.rose t)) y with | some z => some (Rose.node (Rose.root x) z) | none => none) else none
    | _, _ => none

/-! ### slots and memory -/
def St.get (σ : St) (t : Nat) : AV := σ.env.getD t .undef
def St.put (σ : St) (t : Option Nat) (v : AV) : St := match t with | some t => { σ with env := σ.env.set t v } | none => σ
def St.obj (σ : St) (i : Nat) : AO := σ.mem.getD i .gone
def St.new (σ : St) (o : AO) : St := { σ with mem := σ.mem ++ [o] }
def St.setObj (σ : St) (i : Nat) (o : AO) : St := { σ with mem := σ.mem.set i o }

mutual
/-- as a reader sees it: rows as lists, boxes as fixed ones -/
def AV.view (m : List AO) : AV → AV
  | .ref id => match m.getD id .gone with | .row t l fr => .d (.list t) l fr | _ => .undef
  | .rp id i off => match m.getD id .gone with | .row t l fr => .fp t (rd (dflt t) l i) off fr | _ => .undef
  | .agg l => .agg (AV.views m l)
  | .tup l => .tup (AV.views m l)
  | .fn f l => .fn f (AV.views m l)
  | .ptr _ _ => .undef
  | .itr _ => .undef
  | .sub id a n => match m.getD id .gone with | .row t l fr => .d (.list t) (cut l a (addI a n)) fr | _ => .undef
  | .fb l off => .fb (AV.views m l) off
  | v => v
def AV.views (m : List AO) : List AV → List AV
  | [] => []
  | v :: l => AV.view m v :: AV.views m l
end
mutual
/-- as a callee gets it: to be read alone -/
def AV.lend (m : List AO) : AV → AV
  | .c q => .c (.bv q.val)
  | .d t x _ => .d t x t.flat
  | .fp t x off _ => .fp t x off t.flat
  | .ref id => match m.getD id .gone with | .row t l _ => .d (.list t) l false | _ => .undef
  | .rp id i off => match m.getD id .gone with | .row t l _ => .fp t (rd (dflt t) l i) off t.flat | _ => .undef
  | .agg l => .agg (AV.lends m l)
  | .fn f l => .fn f (AV.lends m l)
  | .fb l off => .fb (AV.lends m l) off
  | .tup _ => .undef
  | .ptr _ _ => .undef
  | .itr _ => .undef
  | .sub id a n => match m.getD id .gone with | .row t l _ => .d (.list t) (cut l a (addI a n)) false | _ => .undef
  | v => v
def AV.lends (m : List AO) : List AV → List AV
  | [] => [] | v :: l => AV.lend m v :: AV.lends m l
end
def AV.lendP (m : List AO) : AV → AV
  | .ptr id off => match m.getD id .gone with | .box l => .fb (AV.lends m l) off | _ => .undef
  | v => v.lend m
def AV.lendPs (m : List AO) : List AV → List AV
  | [] => [] | v :: l => AV.lendP m v :: AV.lendPs m l
def AV.lendA (m : List AO) : AV → AV
  | .fn f l => .fn f (AV.lendPs m l)
  | v => v.lendP m
def AV.lendAs (m : List AO) : List AV → List AV
  | [] => [] | v :: l => AV.lendA m v :: AV.lendAs m l
mutual
/-- nothing of one's own in it -/
def AV.noId : AV → Bool
  | .ref _ => false | .rp _ _ _ => false | .ptr _ _ => false | .itr _ => false | .sub _ _ _ => false
  | .agg l => AV.noIds l | .tup l => AV.noIds l | .fn _ l => AV.noIds l | .fb l _ => AV.noIds l
  | _ => true
def AV.noIds : List AV → Bool
  | [] => true | v :: l => AV.noId v && AV.noIds l
end
mutual
def AV.refs : AV → List Nat
  | .ref id => [id] | .rp id _ _ => [id]
  | .agg l => AV.refsL l | .tup l => AV.refsL l | .fn _ l => AV.refsL l
  | _ => []
def AV.refsL : List AV → List Nat
  | [] => [] | v :: l => AV.refs v ++ AV.refsL l
end
mutual
/-- row id handed over: from here on a fixed list -/
def AV.fix (id : Nat) (t : Sh) (x : List (sem t)) (fr : Bool) : AV → AV
  | .ref j => if j = id then .d (.list t) x fr else .ref j
  | .rp j i off => if j = id then .fp t (rd (dflt t) x i) off fr else .rp j i off
  | .agg l => .agg (AV.fixL id t x fr l) | .tup l => .tup (AV.fixL id t x fr l) | .fn f l => .fn f (AV.fixL id t x fr l)
  | v => v
def AV.fixL (id : Nat) (t : Sh) (x : List (sem t)) (fr : Bool) : List AV → List AV
  | [] => [] | v :: l => AV.fix id t x fr v :: AV.fixL id t x fr l
end
def AO.fix (id : Nat) (t : Sh) (x : List (sem t)) (fr : Bool) : AO → AO
  | .box l => .box (AV.fixL id t x fr l) | o => o
def St.freeze (σ : St) (id : Nat) : St := match σ.obj id with
  | .row t x fr => { env := AV.fixL id t x fr σ.env, mem := (σ.mem.set id .gone).map (AO.fix id t x fr), pin := σ.pin }
  | _ => σ
def St.freezeAll (σ : St) : List Nat → St
  | [] => σ | i :: l => (σ.freeze i).freezeAll l

/-! ### a round's head: some slots kept, the objects numbered anew -/
mutual
def AV.ids (m : List AO) : AV → List Nat
  | .ref id => live m id | .rp id _ _ => live m id | .ptr id _ => live m id | .itr id => live m id | .sub id _ _ => live m id
  | .agg l => AV.idsL m l | .tup l => AV.idsL m l | .fn _ l => AV.idsL m l
  | _ => []
def AV.idsL (m : List AO) : List AV → List Nat
  | [] => [] | v :: l => AV.ids m v ++ AV.idsL m l
def live (m : List AO) (id : Nat) : List Nat := match m.getD id .gone with | .gone => [] | _ => [id]
end
def addNew : List Nat → List Nat → List Nat
  | acc, [] => acc | acc, i :: l => addNew (if acc.contains i then acc else acc ++ [i]) l
def boxIds (m : List AO) (i : Nat) : List Nat := match m.getD i .gone with | .box l => AV.idsL m l | _ => []
def reach (m : List AO) : Nat → List Nat → List Nat
  | 0, acc => acc | n + 1, acc => reach m n (addNew acc (acc.flatMap (boxIds m)))
def newId (ord : List Nat) (id : Nat) : Option Nat := ord.findIdx? (· == id)
mutual
def AV.ren (ord : Nat → Option Nat) : AV → AV
  | .c q => .c (.bv q.val)
  | .ref id => match ord id with | some j => .ref j | none => .undef
  | .rp id i off => match ord id with | some j => .rp j i off | none => .undef
  | .ptr id off => match ord id with | some j => .ptr j off | none => .undef
  | .itr id => match ord id with | some j => .itr j | none => .undef
  | .sub id a n => match ord id with | some j => .sub j a n | none => .undef
  | .agg l => .agg (AV.renL ord l) | .tup l => .tup (AV.renL ord l) | .fn f l => .fn f (AV.renL ord l)
  | .fb l off => .fb (AV.renL ord l) off
  | v => v
def AV.renL (ord : Nat → Option Nat) : List AV → List AV
  | [] => [] | v :: l => AV.ren ord v :: AV.renL ord l
end
def AO.ren (ord : Nat → Option Nat) : AO → AO
  | .box l => .box (AV.renL ord l)
  | .map k v nn l st rem _ => .map k v nn l st rem none
  | o => o
/-- the slots that are kept: as they are; as a row of its own; as data (nil being the empty list); 'fr': is all of it new memory -/
inductive Hk where
  | keep | row (t : Sh) (fr : Bool) | data (t : Sh) (fr : Bool)
  /-- a row that was handed over: from here on another one, of one's own -/
  | own (t : Sh) (fr : Bool)
  /-- a box's cell: a row of its own -/
  | inb (c : Nat) (t : Sh) (fr : Bool)
abbrev Hint := List (Nat × Hk)
def keepFrom (h : Hint) : Nat → List AV → List AV
  | _, [] => []
  | i, v :: l => (if h.any (·.1 == i) then v else .undef) :: keepFrom h (i + 1) l
def dataSlot (σ : St) (i : Nat) (fr : Bool) : St := match σ.get i with
  | .d t' x f => { σ with env := σ.env.set i (.d t' x (f && fr)) }
  | _ => σ
def rowSlot (σ : St) (i : Nat) (t : Sh) (fr : Bool) : St := match σ.get i with
  | .nil => if t.size = 0 then σ else { env := σ.env.set i (.ref σ.mem.length), mem := σ.mem ++ [.row t [] fr], pin := σ.pin }
  | .ref id => (match σ.obj id with
    | .row t' l f => { σ with mem := σ.mem.set id (.row t' l (f && fr)) }
    | _ => σ)
  | _ => σ
def ownSlot (σ : St) (i : Nat) : St := match σ.get i with
  | .ref id => if id < σ.pin then (match σ.obj id with
      | .row t l f => { env := σ.env.set i (.ref (σ.setObj id .gone).mem.length), mem := (σ.setObj id .gone).mem ++ [.row t l f], pin := σ.pin }
      | _ => σ) else σ
  | _ => σ
def boxSlot (σ : St) (i c : Nat) (t : Sh) (fr : Bool) : St := match σ.get i with
  | .ptr id _ => (match σ.obj id with
    | .box l => (match l[c]? with
      | some .nil => if t.size = 0 then σ else (σ.new (.row t [] fr)).setObj id (.box (l.set c (.ref σ.mem.length)))
      | some (.ref j) => (match σ.obj j with
        | .row t' l' f => { σ with mem := σ.mem.set j (.row t' l' (f && fr)) }
        | _ => σ)
      | _ => σ)
    | _ => σ)
  | _ => σ
def rowFor (σ : St) : Hint → St
  | [] => σ
  | (i, .row t fr) :: h => rowFor (rowSlot σ i t fr) h
  | (i, .own t fr) :: h => rowFor (rowSlot (ownSlot σ i) i t fr) h
  | (i, .inb c t fr) :: h => rowFor (boxSlot σ i c t fr) h
  | (i, .data t fr) :: h => rowFor (match σ.get i with
    | .nil => { σ with env := σ.env.set i (.d (.list t) [] fr) }
    | .ref id => dataSlot (σ.freeze id) i fr
    | _ => dataSlot σ i fr) h
  | (_, .keep) :: h => rowFor σ h
def nodupB : List Nat → Bool
  | [] => true | i :: l => !(l.contains i) && nodupB l
def canon (h : Hint) (σ : St) : St :=
  let σ1 := rowFor { σ with env := keepFrom h 0 σ.env } h
  let ord := reach σ1.mem 3 (addNew (List.range σ1.pin) (AV.idsL σ1.mem σ1.env))
  if nodupB ord then { env := AV.renL (newId ord) σ1.env, mem := ord.map fun i => (σ1.obj i).ren (newId ord), pin := σ1.pin } else { env := List.replicate σ1.env.length .undef, mem := List.replicate σ1.pin .gone, pin := σ1.pin }

/-! ### types -/
def depth : Nat := 12
/-- a struct's fields, one behind the other -/
def shFs (P : Program) (F : TypeId → Option Sh) : Nat → List Field → Option Sh
  | _, [] => some .unit
  | off, f :: r => match F f.type with
    | some s => if f.offset = off ∧ P.cellsOf f.type = s.size then (match shFs P F (off + s.size) r with | some r => some (.pair s r) | none => none) else none
    | none => none
def shTs (F : TypeId → Option Sh) : List TypeId → Option Sh
  | [] => some .unit
  | t :: r => match F t, shTs F r with | some s, some r => some (.pair s r) | _, _ => none
/-- the last field is a row of the struct's own like -/
def ownRow (P : Program) (t : TypeId) (fs : List Field) : Bool := match fs.getLast? with
  | some f => (match P.underlying f.type with | some (.slice e) => e == t && P.cellsOf f.type == 1 | _ => false)
  | none => false
def roseOf (P : Program) (F : TypeId → Option Sh) (fs : List Field) : Option Sh := match fs.getLast?, shFs P F 0 fs.dropLast with
  | some f, some s => if f.offset = s.size then some (.rose s) else none
  | _, _ => none
def shOf (P : Program) : Nat → TypeId → Option Sh
  | 0, _ => none
  | n + 1, t => match P.underlying t with
    | some .bool => some .bool
    | some (.int k) => some (.int k)
    | some .string => some .str
    | some (.slice e) => match shOf P n e with | some s => if s.size = 0 then none else some (.list s) | none => none
    | some (.struct fs) => if ownRow P t fs.toList = true then roseOf P (shOf P n) fs.toList else shFs P (shOf P n) 0 fs.toList
    | some (.tuple ts) => shTs (shOf P n) ts.toList
    | _ => none
def aggD : TypeDesc → Bool
  | .struct _ => true | .array _ _ => true | _ => false
def aggT (P : Program) (t : TypeId) : Option Bool := match P.underlying t with | some d => some (aggD d) | none => none
/-- a value of type t out of a row of cells -/
def cut1 (P : Program) (t : TypeId) (l : List AV) (off : Nat) : Option AV := match aggT P t with
  | some true => if off + P.cellsOf t ≤ l.length then some (.agg ((l.drop off).take (P.cellsOf t))) else none
  | some false => l[off]?
  | none => none
/-- the shape of a variable's type, its size as the type's -/
def varSh (P : Program) (t : TypeId) : Option Sh := match shOf P depth t with
  | some s => if P.cellsOf t = s.size ∧ aggT P t = some s.isP then some s else none
  | none => none
def tupT (P : Program) (t : TypeId) : Bool := match P.underlying t with | some (.tuple _) => true | _ => false
def elemT (P : Program) (t : TypeId) : Option TypeId := match P.underlying t with | some (.slice e) => some e | _ => none
/-- these cells are the shape's zero -/
def zrep : Sh → List Value → Option (List Value)
  | .int k, .int k' 0 :: r => if k = k' then some r else none
  | .bool, .bool false :: r => some r
  | .str, .string s :: r => if s.size = 0 then some r else none
  | .list _, .slice none 0 0 :: r => some r
  | .unit, r => some r
  | .pair a b, l => match zrep a l with | some r => zrep b r | none => none
  | .rose t, l => match zrep t l with | some (.slice none 0 0 :: r) => some r | _ => none
  | _, _ => none
/-- the type's own size and zero are as its shape says -/
def elemOk (P : Program) (e : TypeId) (s : Sh) : Bool := match P.info? e with
  | some i => i.size == s.size && (match i.zero with | some z => z.cells.size == s.size && (match zrep s z.cells.toList with | some [] => true | _ => false) | none => false) && s.size != 0
  | none => false
def elemSh (P : Program) (t : TypeId) : Option Sh := match elemT P t with
  | some e => (match shOf P depth e with | some s => if elemOk P e s then some s else none | none => none) | none => none
/-- the type's zero is the shape's -/
def zeroOk (P : Program) (e : TypeId) (s : Sh) : Bool := match P.info? e with
  | some i => (match i.zero with | some z => (match zrep s z.cells.toList with | some [] => (match z with | .agg _ => s.isP | _ => !s.isP && z.oneCell') | _ => false) | none => false)
  | none => false
def fieldOf (P : Program) (t : TypeId) (f : Nat) : Option Field := match P.underlying t with | some (.struct fs) => fs[f]? | _ => none

/-- two values of this type are held against each other cell by cell -/
def eqOk (P : Program) : Nat → TypeId → Bool
  | 0, _ => false
  | n + 1, t => match P.underlying t with
    | some .bool => true | some (.int _) => true | some .string => true
    | some (.struct fs) => !(P.stoodInHeld t) && fs.toList.all fun f => f.name != "_" && eqOk P n f.type
    | _ => false
/-- a map's type: keys that are held against each other cell by cell, values that are data -/
def mapT (P : Program) (t : TypeId) : Option (Sh × Sh) := match P.underlying t with
  | some (.map k e) => (match shOf P depth k, shOf P depth e with
    | some sk, some se => if sk.flat && eqOk P depth k && zeroOk P e se then some (sk, se) else none
    | _, _ => none)
  | _ => none
def valAV : Value → Option AV
  | .bool true => some (.c .tt) | .bool false => some (.c .ff)
  | .int k n => some (.d (.int k) n true)
  | .string s => some (.d .str s true)
  | .slice none 0 0 => some .nil
  | .pointer none => some .nilp
  | .map none => some .nilm
  | .nilFunc => some .undef
  | _ => none
def valsAV : List Value → Option (List AV)
  | [] => some []
  | v :: l => match valAV v, valsAV l with | some a, some r => some (a :: r) | _, _ => none
def zeroAV (P : Program) (t : TypeId) : Option (List AV) := match P.info? t with
  | some i => (match i.zero with | some v => valsAV v.cells.toList | none => none) | none => none
/-- the cells of what a slot holds -/
def cellsOf : AV → Option (List AV)
  | .undef => none | .tup _ => none
  | .agg l => some l
  | .d t x fr => if t.isP then some (leaves t x fr []) else some [.d t x fr]
  | v => some [v]

/-! ### calls that hand memory over -/
/-- how a call's results, and what the objects hold when it has ended, look: holes are data -/
inductive TV where
  | hole (t : Sh) | ref (i : Nat) | ptr (i off : Nat) | nil | nilp | fn (f : Nat) (l : List TV) | agg (l : List TV)
inductive TO where
  | gone | row (t : Sh) | box (l : List TV) | map (k v : Sh) (nn : Bool)
structure Mode where
  /-- which arguments (what is captured behind them) hand over what they reach -/
  mv : List Nat
  /-- how many objects these are -/
  nin : Nat
  res : List TV
  mem : List TO
  /-- may it be called through a function value, and then with arguments of which types -/
  val : Option (List TypeId)
structure Frs where
  l : List Nat
  m : List (Nat × Mode)
def Frs.contains (F : Frs) (f : Nat) : Bool := F.l.contains f
def findM (f : Nat) : List (Nat × Mode) → Option Mode
  | [] => none | (g, M) :: l => if g = f then some M else findM f l
def Frs.mode (F : Frs) (f : Nat) : Option Mode := findM f F.m
def Mode.by (M : Mode) (ts : List TypeId) : Bool := match M.val with | some l => l == ts | none => false
def Frs.anyVal (F : Frs) (ts : List TypeId) : Bool := F.m.any fun p => p.2.by ts
mutual
def TV.shs : TV → List Sh
  | .hole t => [t] | .fn _ l => TV.shsL l | .agg l => TV.shsL l | _ => []
def TV.shsL : List TV → List Sh
  | [] => [] | v :: l => TV.shs v ++ TV.shsL l
end
def TO.shs : TO → List Sh
  | .gone => [] | .row t => [.list t] | .box l => TV.shsL l | .map k v _ => [.list (.pair k v)]
def TO.shsL : List TO → List Sh
  | [] => [] | o :: l => o.shs ++ TO.shsL l
def prodSh : List Sh → Sh
  | [] => .unit | t :: l => .pair t (prodSh l)
def Mode.sh (M : Mode) : Sh := prodSh (TV.shsL M.res ++ TO.shsL M.mem)
/-- no row within a row -/
def TO.flat : TO → Bool
  | .gone => true | .row t => t.flat | .box l => (TV.shsL l).all Sh.flat | .map k v _ => k.flat && v.flat
def Mode.flat (M : Mode) : Bool := (TV.shsL M.res).all Sh.flat && M.mem.all TO.flat
mutual
/-- the holes filled, in order -/
def TV.fill : TV → List AV → AV × List AV
  | .hole _, [] => (.undef, []) | .hole _, a :: r => (a, r)
  | .ref i, r => (.ref i, r) | .ptr i off, r => (.ptr i off, r) | .nil, r => (.nil, r) | .nilp, r => (.nilp, r)
  | .fn f l, r => (.fn f (TV.fills l r).1, (TV.fills l r).2)
  | .agg l, r => (.agg (TV.fills l r).1, (TV.fills l r).2)
def TV.fills : List TV → List AV → List AV × List AV
  | [], r => ([], r)
  | v :: l, r => ((v.fill r).1 :: (TV.fills l (v.fill r).2).1, (TV.fills l (v.fill r).2).2)
end
def rowAO : AV → AO
  | .d (.list t) l _ => .row t l t.flat | _ => .gone
def mapAO (nn : Bool) (st : Nat) : AV → AO
  | .d (.list (.pair k v)) l _ => .map k v nn l st [] none | _ => .gone
def TO.fill (st : Nat) : TO → List AV → AO × List AV
  | .gone, r => (.gone, r)
  | .row _, [] => (.gone, []) | .row _, a :: r => (rowAO a, r)
  | .map _ _ _, [] => (.gone, []) | .map _ _ nn, a :: r => (mapAO nn st a, r)
  | .box l, r => (.box (TV.fills l r).1, (TV.fills l r).2)
/-- no loop over a new map yet; over a map that was handed over none any more -/
def TO.fills (nin : Nat) : Nat → List TO → List AV → List AO
  | _, [], _ => []
  | i, o :: l, r => (o.fill (if i < nin then 2 else 0) r).1 :: TO.fills nin (i + 1) l (o.fill (if i < nin then 2 else 0) r).2
mutual
/-- what stands where the holes are -/
def TV.take : TV → AV → Option (List AV)
  | .hole _, a => some [a]
  | .ref i, .ref j => if i = j then some [] else none
  | .ptr i off, .ptr j off' => if i = j ∧ off = off' then some [] else none
  | .nil, .nil => some [] | .nilp, .nilp => some []
  | .fn f l, .fn g ls => if f = g then TV.takes l ls else none
  | .agg l, .agg ls => TV.takes l ls
  | _, _ => none
def TV.takes : List TV → List AV → Option (List AV)
  | [], [] => some []
  | v :: l, a :: ls => match v.take a, TV.takes l ls with | some x, some y => some (x ++ y) | _, _ => none
  | _, _ => none
end
def TO.take : TO → AO → Option (List AV)
  | .gone, _ => some []
  | .row t, .row t' l fr => if t = t' then some [.d (.list t') l fr] else none
  | .map k v nn, .map k' v' nn' l _ _ _ => if k = k' ∧ v = v' ∧ (!nn || nn') = true then some [.d (.list (.pair k' v')) l false] else none
  | .box l, .box ls => TV.takes l ls
  | _, _ => none
def TO.takes : List TO → List AO → Option (List AV)
  | [], [] => some []
  | o :: l, a :: ls => match o.take a, TO.takes l ls with | some x, some y => some (x ++ y) | _, _ => none
  | _, _ => none
/-- results as slots' values -/
def spreadF : (t : Sh) → sem t → List AV
  | .pair a b, x => mkD a x.1 a.flat :: spreadF b x.2
  | _, _ => []
mutual
/-- in a callee nothing is new but what is flat; no loop over a map is on -/
def AV.low : AV → AV
  | .d t x _ => .d t x t.flat
  | .fp t x off _ => .fp t x off t.flat
  | .agg l => .agg (AV.lowL l) | .tup l => .tup (AV.lowL l) | .fn f l => .fn f (AV.lowL l) | .fb l off => .fb (AV.lowL l) off
  | .itr _ => .undef | .sub _ _ _ => .undef
  | v => v
def AV.lowL : List AV → List AV
  | [] => [] | v :: l => AV.low v :: AV.lowL l
end
def AO.low : AO → AO
  | .row t l _ => .row t l t.flat | .box l => .box (AV.lowL l) | o => o
/-- an object told as a value -/
def encO : AO → AV
  | .gone => .undef | .box l => .agg l | .row t l fr => .d (.list t) l fr
  | .map k v true l _ _ _ => .tup [.d (.list (.pair k v)) l false]
  | .map k v false l _ _ _ => .tup [.undef, .d (.list (.pair k v)) l false]
def decO : AV → AO
  | .agg l => .box l | .d (.list t) l fr => .row t l fr
  | .tup [.d (.list (.pair k v)) l _] => .map k v true l 0 [] none
  | .tup [.undef, .d (.list (.pair k v)) l _] => .map k v false l 0 [] none
  | _ => .gone
/-- the arguments that are handed over -/
def pickAt (mv : List Nat) : Nat → List AV → List AV
  | _, [] => [] | i, a :: l => if mv.contains i then a :: pickAt mv (i + 1) l else pickAt mv (i + 1) l
/-- ..: a nil slice is an empty row -/
def nilArg (P : Program) (σ : St) : AV → List TypeId → St × AV
  | .nil, t :: _ => (match elemSh P t with | some s => (σ.new (.row s [] true), .ref σ.mem.length) | none => (σ, .nil))
  | a, _ => (σ, a)
def nilArgs (P : Program) (mv : List Nat) : Nat → List TypeId → St → List AV → St × List AV
  | _, _, σ, [] => (σ, [])
  | i, ts, σ, a :: l =>
    let q : St × AV := if mv.contains i then nilArg P σ a ts else (σ, a)
    let r := nilArgs P mv (i + 1) ts.tail q.1 l
    (r.1, q.2 :: r.2)
/-- nil where a row or a map is to stand -/
def nilAt (σ : St) : AV → Option TO → St × AV
  | .nil, some (.row s) => if s.size = 0 then (σ, .nil) else (σ.new (.row s [] true), .ref σ.mem.length)
  | .nilm, some (.map k v false) => if k.flat then (σ.new (.map k v false [] 0 [] none), .ref σ.mem.length) else (σ, .nilm)
  | a, _ => (σ, a)
def nilIn (T : List TO) : List TV → List AV → St → St × List AV
  | .ref q :: ts, a :: l, σ => let p := nilAt σ a T[q]?; let r := nilIn T ts l p.1; (r.1, p.2 :: r.2)
  | _ :: ts, a :: l, σ => let r := nilIn T ts l σ; (r.1, a :: r.2)
  | [], l, σ => (σ, l)
  | _, [], σ => (σ, [])
/-- .. one struct deep -/
def nilInA (T : List TO) : List TV → List AV → St → St × List AV
  | .ref q :: ts, a :: l, σ => let p := nilAt σ a T[q]?; let r := nilInA T ts l p.1; (r.1, p.2 :: r.2)
  | .agg us :: ts, .agg bs :: l, σ => let p := nilIn T us bs σ; let r := nilInA T ts l p.1; (r.1, .agg p.2 :: r.2)
  | _ :: ts, a :: l, σ => let r := nilInA T ts l σ; (r.1, a :: r.2)
  | [], l, σ => (σ, l)
  | _, [], σ => (σ, [])
def nilBoxes (T : List TO) : List TO → List Nat → St → St
  | .box ts :: os, id :: ids, σ => (match σ.obj id with
    | .box l => let r := nilIn T ts l σ; nilBoxes T os ids (r.1.setObj id (.box r.2))
    | _ => nilBoxes T os ids σ)
  | _ :: os, _ :: ids, σ => nilBoxes T os ids σ
  | _, _, σ => σ
/-- a row's first part that is handed back: a row of its own from here on -/
def subAt (σ : St) : AV → St × AV
  | .sub id a n => (match σ.obj id with
    | .row t l fr => if a = 0 then ((σ.setObj id .gone).new (.row t (cut l 0 n) fr), .ref σ.mem.length) else (σ, .sub id a n)
    | _ => (σ, .sub id a n))
  | v => (σ, v)
/-- what was handed over, and is handed back as another -/
def refAt (σ : St) (q : Nat) : AV → St × AV
  | .ref id => if decide (id < σ.pin) && decide (σ.pin ≤ q) then (match σ.obj id with
      | .row t l fr => ((σ.setObj id .gone).new (.row t l fr), .ref σ.mem.length)
      | _ => (σ, .ref id)) else (σ, .ref id)
  | v => subAt σ v
def subIn : List TV → List AV → St → St × List AV
  | .ref q :: ts, a :: l, σ => let p := refAt σ q a; let r := subIn ts l p.1; (r.1, p.2 :: r.2)
  | _ :: ts, a :: l, σ => let r := subIn ts l σ; (r.1, a :: r.2)
  | [], l, σ => (σ, l)
  | _, [], σ => (σ, [])
/-- .. in boxes -/
def subBoxes : List TO → List Nat → St → St
  | .box ts :: os, id :: ids, σ => (match σ.obj id with
    | .box l => let r := subIn ts l σ; subBoxes os ids (r.1.setObj id (.box r.2))
    | _ => subBoxes os ids σ)
  | _ :: os, _ :: ids, σ => subBoxes os ids σ
  | _, _, σ => σ
def goneAt (m : List AO) : List Nat → List AO
  | [] => m | i :: l => goneAt (m.set i .gone) l
/-- the callee's numbers as the caller's -/
def backId (ord : List Nat) (base : Nat) (j : Nat) : Option Nat := if j < ord.length then ord[j]? else some (base + (j - ord.length))
/-- the caller's number as the callee's -/
def place (ord : List Nat) (base i : Nat) : Option Nat := if i < base then newId ord i else some (ord.length + (i - base))
/-- the objects when the call has ended -/
def joined (ord : List Nat) (m os : List AO) : List AO :=
  (List.range (m.length + (os.length - ord.length))).map fun i => match place ord m.length i with | some j => os.getD j .gone | none => m.getD i .gone
/-- arguments as the callee gets them -/
def passAt (mv : List Nat) (ord : List Nat) (m : List AO) : Nat → List AV → List AV
  | _, [] => [] | i, a :: l => (if mv.contains i then (a.ren (newId ord)).low else a.lendA m) :: passAt mv ord m (i + 1) l
def lentAt (mv : List Nat) : Nat → List AV → List AV
  | _, [] => [] | i, a :: l => if mv.contains i then lentAt mv (i + 1) l else a :: lentAt mv (i + 1) l

/-! ### operations -/
section
variable {ω : Type} (P : Program) (Φ : Nat → Nat → List AV → (τ : Sh) → Option (sem τ)) (frs : Frs)

def opnd (σ : St) : Operand → AV
  | .tmp t => σ.get t
  | .const v => (valAV v).getD .undef
  | .func f => .fn f []
  | .global _ => .undef
def asCd : AV → Option Cd
  | .c c => some c | .d .bool x _ => some (.bv x) | _ => none

def onCd (v : AV) (K : Cd → Option ω) : Option ω := match asCd v with | some c => K c | none => none
/-- sums of lengths stay below this -/
def lim : Nat := 4611686018427387904
noncomputable def binK (op : BinOp) (t : TypeId) (x y : AV) (K : AV → Option ω) : Option ω :=
  match x, y with
  | .d (.int k) a _, .d (.int k') b _ =>
    match op with
    | .shl => br (.ilt b 0) none (K (.d (.int k) (shlI k a b) true))
    | .shr => br (.ilt b 0) none (K (.d (.int k) (shrI k a b) true))
    | op => if k ≠ k' then none else match op with
      | .add => K (.d (.int k) (wr k (addI a b)) true)
      | .sub => K (.d (.int k) (wr k (subI a b)) true)
      | .mul => K (.d (.int k) (wr k (mulI a b)) true)
      | .quo => br (.ieq b 0) none (K (.d (.int k) (wr k (quoI a b)) true))
      | .rem => br (.ieq b 0) none (K (.d (.int k) (remI a b) true))
      | .and => K (.d (.int k) (bits .and k a b) true) | .or => K (.d (.int k) (bits .or k a b) true)
      | .xor => K (.d (.int k) (bits .xor k a b) true) | .andNot => K (.d (.int k) (bits .andNot k a b) true)
      | .eql => K (.c (.ieq a b)) | .neq => K (.c (.no (.ieq a b)))
      | .lss => K (.c (.ilt a b)) | .leq => K (.c (.ile a b)) | .gtr => K (.c (.igt a b)) | .geq => K (.c (.ige a b))
      | _ => none
  | .d .str a _, .d .str b _ =>
    match op with
    | .add => br (.room (a.size + b.size) lim) (K (.d .str (appS a b) true)) none
    | .eql => K (.c (.seq a b)) | .neq => K (.c (.no (.seq a b)))
    | .lss => K (.c (.slt a b)) | .leq => K (.c (.sle a b)) | .gtr => K (.c (.no (.sle a b))) | .geq => K (.c (.no (.slt a b)))
    | _ => none
  | .c a, .c b => match P.underlying t, op with
    | some .bool, .eql => K (.c (.bv (eqB a.val b.val))) | some .bool, .neq => K (.c (.bv (neB a.val b.val))) | _, _ => none
  /- a slice against nil: an empty one may be nil or not -/
  | .d (.list _) l _, .nil => (match P.underlying t with
    | some (.slice _) => (match op with
      | .eql => br (.ieq (lenI l) 0) (allK 2 fun i => br (.ieq i 0) (K (.c .tt)) (K (.c .ff))) (K (.c .ff))
      | .neq => br (.ieq (lenI l) 0) (allK 2 fun i => br (.ieq i 0) (K (.c .ff)) (K (.c .tt))) (K (.c .tt))
      | _ => none)
    | _ => none)
  | x, y => match P.underlying t, shOf P depth t with
    | some (.struct _), some s => if s.flat && eqOk P depth t && !(P.eqGuardType P.depth t) then (match data s x, data s y with
      | some (a, _), some (b, _) => (match op with | .eql => K (.c (.deq s a b)) | .neq => K (.c (.no (.deq s a b))) | _ => none)
      | _, _ => none) else none
    | _, _ => none

def loadK (σ : St) (t : TypeId) (a : AV) (K : AV → Option ω) : Option ω :=
  match a with
  | .ptr id off => match σ.obj id with
    | .box l => (match cut1 P t l off with | some v => K v | none => none)
    | _ => none
  | .fb l off => (match cut1 P t l off with | some v => K v | none => none)
  | .fp s x off fr => match varSh P t with
    | some s' => (match getAt s x off s' with | some y => K (mkD s' y fr) | none => none)
    | none => none
  | .rp id i off => match σ.obj id, varSh P t with
    | .row s l fr, some s' => (match getAt s (rd (dflt s) l i) off s' with | some y => K (mkD s' y fr) | none => none)
    | _, _ => none
  | _ => none
def setCells (l : List AV) (off : Nat) : List AV → List AV
  | [] => l | v :: r => setCells (l.set off v) (off + 1) r
def storeK (σ : St) (t : TypeId) (a x : Operand) (K : St → Option ω) : Option ω :=
  match opnd σ a with
  | .ptr id off => match σ.obj id, cellsOf (opnd σ x) with
    | .box l, some cs => if cs.length = P.cellsOf t ∧ P.cellsOf t ≠ 0 ∧ off + cs.length ≤ l.length then K (σ.setObj id (.box (setCells l off cs))) else none
    | _, _ => none
  | .rp _ _ _ =>
    let σ' := σ.freezeAll (AV.refs (opnd σ x))
    match opnd σ' a with
    | .rp id i off => match σ'.obj id, varSh P t with
      | .row s l fr, some s' => if s'.size ≠ 0 then (match data s' (opnd σ' x) with
        | some (y, f) => (match setAt s (rd (dflt s) l i) off s' y with
          | some z => bnd (some (put l i z)) fun l' => K (σ'.setObj id (.row s l' (fr && f))) | none => none)
        | none => none) else none
      | _, _ => none
    | _ => none
  | _ => none
/-- parts of a struct laid into its zero cells -/
def fillK (P : Program) (t : TypeId) : List AV → List (Nat × AV) → Option (List AV)
  | l, [] => some l
  | l, (i, v) :: r => match fieldOf P t i, cellsOf v with
    | some f, some cs => if cs.length = P.cellsOf f.type ∧ f.offset + cs.length ≤ l.length then fillK P t (setCells l f.offset cs) r else none
    | _, _ => none
/-- .. of an array -/
def fillE (c : Nat) : List AV → List (Nat × AV) → Option (List AV)
  | l, [] => some l
  | l, (i, v) :: r => match cellsOf v with
    | some cs => if cs.length = c ∧ i * c + cs.length ≤ l.length then fillE c (setCells l (i * c) cs) r else none
    | none => none
/-- a literal's parts, one behind the other -/
def rowOf (t : Sh) : Nat → List (Nat × AV) → Option (List (sem t) × Bool)
  | _, [] => some ([], true)
  | n, (i, v) :: r => if i = n then (match data t v, rowOf t (n + 1) r with
    | some (x, f), some (l, g) => some (x :: l, f && g)
    | _, _ => none) else none
def bytesT (P : Program) (t : TypeId) : Nat := match P.info? t with | some i => i.bytes | none => 0
/-- at most so many elements -/
def most (b : Nat) : Nat := 35184372088832 / (b + 1)
def appendK (σ : St) (t : TypeId) (x y : AV) (K : St → AV → Option ω) : Option ω :=
  match elemT P t, elemSh P t with
  | some e, some s =>
    match leaf (.list s) (y.view σ.mem) with
    | some (b, g) =>
      (match x with
      | .nil => br (.room b.length (most (bytesT P e))) (K (σ.new (.row s b g)) (.ref σ.mem.length)) none
      | .ref id => (match σ.obj id with
        | .row s' a f => (match cast? (.list s') (.list s) a with
          | some a => br (.room (a.length + b.length) (most (bytesT P e)))
              (K ((σ.setObj id .gone).new (.row s (app a b) (f && g))) (.ref σ.mem.length)) none
          | none => none)
        | _ => none)
      | _ => none)
    | none => none
  | _, _ => none
def lenK (t : TypeId) (m : List AO) (v : AV) (K : AV → Option ω) : Option ω :=
  match P.underlying t, v with
  | some .string, .d .str s _ => K (.d (.int .i64) (sizeI s) true)
  | some (.slice _), .d (.list _) l _ => K (.d (.int .i64) (lenI l) true)
  | some (.slice _), .nil => K (.d (.int .i64) (0 : Int) true)
  | some (.slice _), .ref id => (match m.getD id .gone with | .row _ l _ => K (.d (.int .i64) (lenI l) true) | _ => none)
  | some (.slice _), .sub id _ n => (match m.getD id .gone with | .row _ _ _ => K (.d (.int .i64) n true) | _ => none)
  | _, _ => none
def intOf : AV → Option Int
  | .d (.int _) n _ => some n | _ => none
def optInt (σ : St) (x : Option Operand) (z : Int) : Option Int := match x with | none => some z | some o => intOf (opnd σ o)
def sliceK (t : TypeId) (σ : St) (x : AV) (lo hi : Option Operand) (K : AV → Option ω) : Option ω :=
  match P.underlying t, x with
  | some .string, .d .str s _ => match optInt σ lo 0, optInt σ hi (sizeI s) with
    | some a, some b => br (.upto a b (sizeI s)) (K (.d .str (cutS s a b) true)) none | _, _ => none
  | some (.slice e), .d (.list t) l fr => (match optInt σ lo 0, optInt σ hi (lenI l) with
    | some a, some b => if P.cellsOf e = t.size ∧ t.size ≠ 0 then br (.upto a b (lenI l)) (K (.d (.list t) (cut l a b) fr)) none else none
    | _, _ => none)
  | some (.slice e), .ref id => (match σ.obj id with
    | .row t l _ => (match optInt σ lo 0, optInt σ hi (lenI l) with
      | some a, some b => if P.cellsOf e = t.size ∧ t.size ≠ 0 then br (.upto a b (lenI l)) (K (.sub id a (if lo.isNone then b else subI b a))) none else none
      | _, _ => none)
    | _ => none)
  | _, _ => none
def indexAddrK (t : TypeId) (σ : St) (x i : AV) (K : AV → Option ω) : Option ω :=
  match intOf i, elemT P t with
  | some i, some e => match x with
    | .d (.list t) l fr => if P.cellsOf e = t.size ∧ t.size ≠ 0 then br (.at i (lenI l)) (K (.fp t (rd (dflt t) l i) 0 fr)) none else none
    | .ref id => (match σ.obj id with
      | .row t l _ => if P.cellsOf e = t.size ∧ t.size ≠ 0 then br (.at i (lenI l)) (K (.rp id i 0)) none else none | _ => none)
    | .sub id a n => (match σ.obj id with
      | .row t _ _ => if P.cellsOf e = t.size ∧ t.size ≠ 0 then br (.at i n) (K (.rp id (addI a i) 0)) none else none | _ => none)
    | _ => none
  | _, _ => none
/-- a pointer that can be followed -/
def ptrOk (m : List AO) : AV → Bool
  | .ptr id _ => (match m.getD id .gone with | .box _ => true | _ => false)
  | .rp id _ _ => (match m.getD id .gone with | .row _ _ _ => true | _ => false)
  | .fp _ _ _ _ => true | .fb _ _ => true
  | _ => false
def shiftP (n : Nat) : AV → AV
  | .ptr id off => .ptr id (off + n) | .fb l off => .fb l (off + n)
  | .fp t x off fr => .fp t x (off + n) fr | .rp id i off => .rp id i (off + n)
  | v => v
/-- one of n places, found by trying -/
def tryK (i : Int) (K : Nat → Option ω) : Nat → Nat → Option ω
  | 0, _ => none
  | d + 1, q => br (.ieq i (q : Int)) (K q) (tryK i K d (q + 1))
def arrT (P : Program) (t : TypeId) : Option (Nat × TypeId) := match P.underlying t with | some (.array n e) => some (n, e) | _ => none
/-- the address of an element: of a slice, or of an array in memory -/
def indexAnyK (t : TypeId) (σ : St) (x i : AV) (K : AV → Option ω) : Option ω := match arrT P t with
  | some (n, e) => (match intOf i with | some j => if ptrOk σ.mem x = true ∧ P.cellsOf e ≠ 0 ∧ n ≤ 64 then tryK j (fun q => K (shiftP (q * P.cellsOf e) x)) n 0 else none | none => none)
  | none => indexAddrK P t σ x i K
def aggCells : AV → Option (List AV)
  | .agg l => some l
  | .d t x fr => if t.isP then some (leaves t x fr []) else none
  | _ => none
noncomputable def unK (op : UnOp) (x : AV) (K : AV → Option ω) : Option ω :=
  match op, x with
  | .not, .c c => K (.c c.not)
  | .neg, .d (.int k) n _ => K (.d (.int k) (wr k (subI 0 n)) true)
  | _, _ => none
noncomputable def convK (src dst : TypeId) (x : AV) (m : List AO) (K : AV → Option ω) : Option ω :=
  match P.underlying src, P.underlying dst, x with
  | some _, some (.int k), .d (.int _) n _ => K (.d (.int k) (wr k n) true)
  | some .string, some .string, .d .str s _ => K (.d .str s true)
  | some (.slice e), some .string, x => match P.underlying e with
    | some (.int .u8) => (match leaf (.list (.int .u8)) (x.view m) with | some (l, _) => K (.d .str (utfB l) true) | none => none)
    | _ => none
  | _, _, _ => none

/-- a text of which a row of bytes is to be made -/
def bytesT2 (src dst : TypeId) (x : AV) : Option ByteArray := match P.underlying src, P.underlying dst, x with
  | some .string, some (.slice e), .d .str s _ => (match P.underlying e with | some (.int .u8) => some s | _ => none)
  | _, _, _ => none
/-- results of a call, as a slot's value -/
def spread : (t : Sh) → sem t → Bool → List AV
  | .pair a b, x, fr => mkD a x.1 fr :: spread b x.2 fr
  | _, _, _ => []
/-- has the function several results, or none -/
def retTup (P : Program) (f : Nat) : Bool := match P.funcs[f]? with | some fn => fn.results.size != 1 | none => false
/-- an argument in the spelling of its type -/
def normA (P : Program) (t : TypeId) (a : AV) : AV := match shOf P depth t with
  | some s => (match data s a with | some (x, _) => mkD s x s.flat | none => a)
  | none => a
def normAs (P : Program) : List TypeId → List AV → List AV
  | _, [] => [] | [], l => l | t :: ts, a :: l => normA P t a :: normAs P ts l
def paramsOf (P : Program) (f : Nat) : List TypeId := match P.funcs[f]? with | some fn => fn.params.toList | none => []
/-- may the callee be one that hands memory over; one that may write to it -/
def isM (frs : Frs) (ts : List TypeId) : Operand → Bool
  | .func f => (frs.mode f).isSome
  | .tmp _ => frs.anyVal ts
  | _ => false
def isMv (frs : Frs) (ts : List TypeId) : Operand → Bool
  | .func f => (match frs.mode f with | some M => !M.mv.isEmpty | none => false)
  | .tmp _ => frs.anyVal ts
  | _ => false
def modeAt (frs : Frs) (ts : List TypeId) (g : Operand) (f : Nat) : Option Mode := match frs.mode f, g with
  | some M, .func _ => some M
  | some M, .tmp _ => if M.by ts then some M else none
  | _, _ => none
/-- a call that hands memory over -/
noncomputable def mpK (σ : St) (k : Nat) (f : Nat) (M : Mode) (args : List AV) (ty : TypeId) (K : St → AV → Option ω) : Option ω :=
  if decide (f < 1000000) && (tupT P ty == retTup P f) then
    let q := nilArgs P M.mv 0 (paramsOf P f) σ args
    let σ2 := nilBoxes M.mem M.mem (reach q.1.mem 3 (addNew [] (AV.idsL q.1.mem (pickAt M.mv 0 q.2)))) q.1
    let ord := reach σ2.mem 3 (addNew [] (AV.idsL σ2.mem (pickAt M.mv 0 q.2)))
    if nodupB ord && ord.all (fun i => decide (i < σ2.mem.length)) && (ord.length == M.nin) && (M.flat || AV.noIds (lentAt M.mv 0 q.2)) then
      bnd (Φ (f + 1000000) k (.agg (ord.map fun i => encO ((σ2.obj i).ren (newId ord)).low) :: normAs P (paramsOf P f) (passAt M.mv ord (if M.flat then goneAt σ2.mem ord else []) 0 q.2)) M.sh) fun x =>
        let r := TV.fills M.res (spreadF M.sh x)
        let os := (TO.fills M.nin 0 M.mem r.2).map (AO.ren (backId ord σ2.mem.length))
        K { σ2 with mem := joined ord σ2.mem os } (if retTup P f then .tup (AV.renL (backId ord σ2.mem.length) r.1) else match r.1 with | [a] => a.ren (backId ord σ2.mem.length) | _ => .undef)
    else none
  else none
def callK (σ : St) (k : Nat) (f : Nat) (argf : St → List AV) (chk : St → Bool) (ty : TypeId) (K : St → AV → Option ω) : Option ω :=
  match shOf P depth ty with
  | none => none
  | some τ =>
    if f < 1000000 ∧ tupT P ty = retTup P f then
      if τ.flat || frs.contains f then bnd (Φ f k (normAs P (paramsOf P f) (AV.lendAs σ.mem (argf σ))) τ) fun x => K σ (if retTup P f then .tup (spread τ x true) else mkD τ x true)
      else
        let σ' := σ.freezeAll (AV.refsL (argf σ))
        if AV.noIds (argf σ') && chk σ' then bnd (Φ f k (normAs P (paramsOf P f) (AV.lendAs [] (argf σ'))) τ) fun x => K σ' (if retTup P f then .tup (spread τ x false) else mkD τ x false)
        else none
    else none

noncomputable def opK (σ : St) (k : Nat) (o : Oper) (K : St → Option ω) : Option ω :=
  let V (v : AV) : Option ω := K (σ.put o.dst v)
  match o.op with
  | .move x | .assign x => V (opnd σ x)
  | .pick c a b => onCd (opnd σ c) fun c => br c (V (opnd σ a)) (V (opnd σ b))
  | .alloc t => match zeroAV P t with | some l => K ((σ.new (.box l)).put o.dst (.ptr σ.mem.length 0)) | none => none
  | .box _ x => match cellsOf (opnd σ x) with | some l => K ((σ.new (.box l)).put o.dst (.ptr σ.mem.length 0)) | none => none
  | .build t ps => (match P.underlying t, zeroAV P t with
    | some (.struct fs), some z => if fs.toList.all fun f => (P.info? f.type).isSome then
        (match fillK P t z (ps.toList.map fun p => (p.1, opnd σ p.2)) with | some l => V (.agg l) | none => none) else none
    | some (.array _ e), some z => if (P.info? e).isSome then
        (match fillE (P.cellsOf e) z (ps.toList.map fun p => (p.1, opnd σ p.2)) with | some l => V (.agg l) | none => none) else none
    | _, _ => none)
  | .buildSlice t n ps => (match elemSh P t with
    | some s =>
      let σ' := σ.freezeAll (AV.refsL (ps.toList.map fun p => opnd σ p.2))
      if n = 0 then (if ps.isEmpty then K ((σ.new (.row s [] true)).put o.dst (.ref σ.mem.length)) else none)
      else if n * s.size ≤ 16777216 ∧ 0 < n then
        (match rowOf s 0 (ps.toList.map fun p => (p.1, opnd σ' p.2)) with
        | some (l, f) => if l.length = n then K ((σ'.new (.row s l f)).put o.dst (.ref σ'.mem.length)) else none
        | none => none)
      else none
    | none => none)
  | .load t a => loadK P σ t (opnd σ a) V
  | .store t a x => storeK P σ t a x fun σ => K (σ.put o.dst .undef)
  | .nilCheck x => if ptrOk σ.mem (opnd σ x) then V (opnd σ x) else none
  | .binOp op t x y _ => binK P op t (opnd σ x) (opnd σ y) V
  | .unOp op _ x => unK op (opnd σ x) V
  | .convert a b x => (match bytesT2 P a b (opnd σ x) with
    | some s => V (.d (.list (.int .u8)) (bytesOf s) true)
    | none => convK P a b (opnd σ x) σ.mem V)
  | .makeFunc (.func f) first caps => if first.size = 0 then V (.fn f (caps.toList.map (opnd σ))) else none
  | .slice t x lo hi none => sliceK P t σ (opnd σ x) lo hi V
  | .fieldAddr t x f => (match fieldOf P t f with
    | some g => if P.cellsOf g.type ≠ 0 ∧ ptrOk σ.mem (opnd σ x) = true then V (shiftP g.offset (opnd σ x)) else none
    | none => none)
  | .field t x f => (match fieldOf P t f, aggCells (opnd σ x) with
    | some g, some l => (match cut1 P g.type l g.offset with | some v => V v | none => none)
    | _, _ => none)
  | .indexAddr t x i => indexAnyK P t σ (opnd σ x) (opnd σ i) V
  | .index t x i => (match P.underlying t, opnd σ x, intOf (opnd σ i) with
    | some .string, .d .str s _, some i => br (.at i (sizeI s)) (V (.d (.int .u8) (bt s i) true)) none
    | some (.array n e), .agg l, some j => if n ≤ 64 then tryK j (fun q => match cut1 P e l (q * P.cellsOf e) with | some v => V v | none => none) n 0 else none
    | _, _, _ => none)
  | .extract t i => (match opnd σ t with | .tup l => (match l[i]? with | some v => V v | none => none) | _ => none)
  | .makeSlice t l c => (match elemT P t, elemSh P t, intOf (opnd σ l), intOf (opnd σ c) with
    | some e, some s, some a, some b => br (.upto a b (most (bytesT P e) : Nat)) (br (.ieq a b) (K ((σ.new (.row s (reps a (dflt s)) true)).put o.dst (.ref σ.mem.length))) none) none
    | _, _, _, _ => none)
  | .makeMap t none => (match mapT P t with
    | some (a, b) => K ((σ.new (.map a b true [] 0 [] none)).put o.dst (.ref σ.mem.length)) | none => none)
  | .lookup t m x ok => (match mapT P t, opnd σ m with
    | some (a, b), .ref id => (match σ.obj id with
      | .map a' b' _ l _ _ _ => if a = a' ∧ b = b' then (match data a' (opnd σ x) with
        | some (y, _) => V (if ok then .tup [mkD b' (mget a' b' l y) b'.flat, .c (.bv (mhas a' b' l y))] else mkD b' (mget a' b' l y) b'.flat)
        | none => none) else none
      | _ => none)
    | _, _ => none)
  | .mapUpdate t m x y | .insert t m x y =>
    let σ' := σ.freezeAll (AV.refs (opnd σ y))
    (match mapT P t, opnd σ' m with
    | some (a, b), .ref id => (match σ'.obj id with
      | .map a' b' true l st _ _ => if a = a' ∧ b = b' then (match data a' (opnd σ' x), data b' (opnd σ' y) with
        | some (u, _), some (v, _) => bnd (some (mput a' b' l u v)) fun l' => K ((σ'.setObj id (.map a' b' true l' (if st = 1 then 2 else st) [] none)).put o.dst .undef)
        | _, _ => none) else none
      | _ => none)
    | _, _ => none)
  | .range t x => (match mapT P t, opnd σ x with
    | some (a, b), .ref id => (match σ.obj id with
      | .map a' b' true l 0 _ _ => if a = a' ∧ b = b' then K ((σ.setObj id (.map a' b' true l 1 l none)).put o.dst (.itr id)) else none
      | _ => none)
    | _, _ => none)
  | .next it false => (match opnd σ it with
    | .itr id => (match σ.obj id with
      | .map a b nn l 1 rem _ => br (.ieq (lenI rem) 0) (K ((σ.setObj id (.map a b nn l 1 rem none)).put o.dst (.tup [.c .ff])))
          (allK (lenI rem) fun i => K ((σ.setObj id (.map a b nn l 1 (del rem i) (some (rd (dflt a, dflt b) rem i)))).put o.dst (.tup [.c .tt, mkD a (rd (dflt a, dflt b) rem i).1 a.flat, mkD b (rd (dflt a, dflt b) rem i).2 b.flat])))
      | _ => none)
    | _ => none)
  | .entry it => (match opnd σ it with
    | .itr id => (match σ.obj id with
      | .map a b _ _ 1 _ (some p) => V (.tup [mkD a p.1 a.flat, mkD b p.2 b.flat])
      | _ => none)
    | _ => none)
  | .call { callee := .builtin .len, args, argTypes } => (match args.toList, argTypes.toList with | [x], [t] => lenK P t σ.mem (opnd σ x) V | _, _ => none)
  | .call { callee := .builtin .append, args, argTypes } => (match args.toList, argTypes.toList with
    | [x, y], [t, t'] => if t' ≠ t then none else appendK P σ t (opnd σ x) (opnd σ y) fun σ v => K (σ.put o.dst v) | _, _ => none)
  | .call { callee := .builtin .clear, args, argTypes } => (match args.toList, argTypes.toList with
    | [x], [t] => (match opnd σ x, elemSh P t with
      | .sub id a n, some s' => (match σ.obj id with
        | .row s l fr => if s = s' then bnd (some (zap (dflt s) l a n)) fun l' => K ((σ.setObj id (.row s l' fr)).put o.dst (.tup [])) else none
        | _ => none)
      | _, _ => none)
    | _, _ => none)
  | .call { callee := .value g, args, argTypes } => (match opnd σ g with
    | .fn f caps => match modeAt frs argTypes.toList g f with
      | some M => mpK P Φ σ k f M (args.toList.map (opnd σ) ++ caps) o.type fun σ v => K (σ.put o.dst v)
      | none => callK P Φ frs σ k f (fun σ => args.toList.map (opnd σ) ++ (match opnd σ g with | .fn _ caps => caps | _ => [])) (fun σ => match opnd σ g with | .fn f2 _ => f2 == f | _ => false) o.type fun σ v => K (σ.put o.dst v)
    | _ => none)
  | _ => none

def dstOf (ops : Array Oper) (j : Nat) : Option Nat := (ops[j]?).bind (·.dst)
def isBox : AO → Bool
  | .box _ => true | _ => false
/-- a store, and a place that it does not touch -/
def farB (σ : St) (o : Oper) (x : Operand) : Bool := match o.op with
  | .store _ a _ => (match opnd σ a with
    | .ptr i _ => isBox (σ.obj i) && (match x with | .func _ => true | x => (match opnd σ x with | .ptr j _ => i != j && isBox (σ.obj j) | .tup [] => true | _ => false))
    | _ => false)
  | .call { callee := .builtin .append, args, .. } => (match args.toList with | [p, _] => (match opnd σ p with | .nil => true | _ => false) | _ => false)
  | _ => false
noncomputable def opW (σ : St) (k : Nat) (o : Oper) (ws : List Operand) (K : St → Option ω) : Option ω := if ws.all (farB σ o) then opK P Φ frs σ k o K else none
/-- operations in a row, each beside the places that it must not touch -/
noncomputable def regK (ops : Array Oper) (k : Nat) (K : St → Option ω) : List (Oper × List Operand) → St → Option ω
  | [], σ => K σ
  | (o, ws) :: rest, σ => match o.guard with
    | none => opW P Φ frs σ k o ws (regK ops k K rest)
    | some (j, want) => match dstOf ops j with
      | none => none
      | some g => match σ.get g with
        | .tup [] => regK ops k K rest (σ.put o.dst (.tup []))
        | v => onCd v fun c => br c
          (let σ := σ.put (some g) (.c .tt); if want then opW P Φ frs σ k o ws (regK ops k K rest) else regK ops k K rest (σ.put o.dst (.tup [])))
          (let σ := σ.put (some g) (.c .ff); if want then regK ops k K rest (σ.put o.dst (.tup [])) else opW P Φ frs σ k o ws (regK ops k K rest))

/-! ### code -/
def csz : Code → Nat
  | .seq a b => csz a + csz b + 1
  | .cond _ a b => csz a + csz b + 1
  | .block _ c => csz c + 1
  | .loop c => csz c + 1
  | _ => 1
def isLoop : Code → Bool
  | .loop _ => true | _ => false
def quietK (P : Program) (frs : Frs) (o : Oper) : Bool := match o.op with
  | .move _ | .assign _ | .pick _ _ _ | .load _ _ | .nilCheck _ | .unOp _ _ _ | .makeFunc _ _ _ | .slice _ _ _ _ _ | .fieldAddr _ _ _ | .field _ _ _ | .indexAddr _ _ _ | .index _ _ _ | .extract _ _ | .build _ _ => true
  | .lookup _ _ _ _ | .entry _ => true
  | .binOp _ _ _ _ _ => true
  | .convert _ d _ => (match P.underlying d with | some (.slice _) => false | _ => true)
  | .call { callee := .builtin .len, .. } => true
  | .call { callee := .value g, argTypes, .. } => (match shOf P depth o.type with | some τ => τ.flat && !isM frs argTypes.toList g | none => false)
  | _ => false
def notSelect : Op → Bool
  | .select _ _ => false | _ => true
def isCall (frs : Frs) (o : Oper) : Bool := match o.op with
  | .call { callee := .value g, argTypes, .. } => !isMv frs argTypes.toList g | _ => false
/-- the index of what stands at place p -/
def atP (ord : List Nat) (p : Nat) : Nat := ord.getD p 0
/-- whatever stands behind place n waits for something from n on -/
def barrierB (ops : Array Oper) (ord : List Nat) (sw n : Nat) : Bool :=
  (List.range ops.size).all fun t => decide (t ≤ n) || (decide (n = sw) && decide (t = n + 1)) || (List.range t).any fun j => decide (n ≤ j) && Region.waitsFor .any ops (atP ord t) (atP ord j)
/-- place n waits, by steps, for all that stands before it -/
def sinkAllB (ops : Array Oper) (ord : List Nat) (n : Nat) : Bool :=
  (List.range n).all fun i => (List.range (n + 1)).any fun j => decide (i < j) && Region.waitsFor .any ops (atP ord j) (atP ord i)
/-- what gives the same in every world -/
def coldB (o : Oper) : Bool := match o.op with
  | .move _ | .assign _ | .pick _ _ _ | .nilCheck _ | .unOp _ _ _ | .fieldAddr _ _ _ | .field _ _ _ | .indexAddr _ _ _ | .index _ _ _ | .extract _ _ | .build _ _ | .binOp _ _ _ _ _ | .slice _ _ _ _ _ => true
  | _ => false
def isAppend (o : Oper) : Bool := match o.op with
  | .call { callee := .builtin .append, .. } => true | _ => false
def isStore (o : Oper) : Bool := match o.op with
  | .store _ _ _ => true | _ => false
/-- what must be done ahead of place n -/
def mustFrom (ops : Array Oper) (ord : List Nat) : Nat → List Nat → List Nat
  | 0, acc => acc
  | i + 1, acc => mustFrom ops ord i (if acc.any fun j => Region.waitsFor .any ops (atP ord j) (atP ord i) then i :: acc else acc)
def looseAt (ops : Array Oper) (ord : List Nat) (n : Nat) : List Nat := (List.range n).filter fun i => !((mustFrom ops ord n [n]).contains i)
def loadOf (o : Oper) : Option Nat := match o.op with
  | .load _ (.tmp s) => some s | _ => none
/-- a store that what is loose around it does not see -/
def storeB (ops : Array Oper) (ord : List Nat) (n : Nat) : Bool :=
  (match ops[atP ord n]? with | some o => isStore o | none => false) && (looseAt ops ord n).all fun i => match ops[atP ord i]? with
    | some o => coldB o || (match loadOf o with | some s => (List.range n).all fun j => decide (j < i) || dstOf ops (atP ord j) != some s | none => false)
    | none => false
/-- surely not quiet -/
def loudB (o : Oper) : Bool := match o.op with
  | .store _ _ _ | .alloc _ | .box _ _ | .buildSlice _ _ _ | .makeSlice _ _ _ | .makeMap _ _ => true
  | .call { callee := .builtin .append, .. } => true
  | _ => false
/-- what is loose around it gives the same in every world -/
def looseCold (ops : Array Oper) (ord : List Nat) (n : Nat) : Bool := (looseAt ops ord n).all fun i => match ops[atP ord i]? with
  | some o => coldB o || loudB o | none => false
def watchAt (ops : Array Oper) (ord : List Nat) (n : Nat) : List Operand := match ops[atP ord n]? with
  | some o => if isStore o then (if (looseAt ops ord n).isEmpty then [] else Operand.func 0 :: (looseAt ops ord n).filterMap fun i => (ops[atP ord i]?).bind fun o => (loadOf o).map Operand.tmp)
    else if isAppend o && !(sinkAllB ops ord n || looseCold ops ord n) then [Operand.func 0] else []
  | none => []
def isPermB (n : Nat) (ord : List Nat) : Bool := ord.length == n && nodupB ord && ord.all (· < n) && (List.range n).all fun i => ord.contains i
def staticS (P : Program) (frs : Frs) (ops : Array Oper) (ord : List Nat) (sw : Nat) : Bool :=
  isPermB ops.size ord && ((List.range ops.size).all fun i => match ops[atP ord i]? with
    | none => false
    | some o => notSelect o.op &&
      ((List.range ops.size).all fun j => j == i || (match dstOf ops (atP ord i), dstOf ops (atP ord j) with | some d, some d' => d != d' | _, _ => true)) &&
      ((o.looksAt ops).all fun t => (List.range ops.size).all fun j => j == i || (match dstOf ops (atP ord j) with
        | some d => d != t || (decide (j < i) && Region.waitsFor .any ops (atP ord i) (atP ord j)) || (decide (i < j) && Region.waitsFor .any ops (atP ord j) (atP ord i))
        | none => true)) &&
      o.after.all (fun e => !Region.binds .any e || (List.range i).any fun j => atP ord j == e.on) &&
      (quietK P frs o || (barrierB ops ord sw i && (isCall frs o || sinkAllB ops ord i || storeB ops ord i || looseCold ops ord i || isAppend o))))
def staticB (P : Program) (frs : Frs) (ops : Array Oper) (ord : List Nat) : Bool := staticS P frs ops ord ops.size
def ordOps (ops : Array Oper) (ord : List Nat) : List (Oper × List Operand) := (List.range ord.length).filterMap fun p => (ops[atP ord p]?).map fun o => (o, watchAt ops ord p)
/-- the order in which a region is read: told beside the hints; the text's own where nothing is told -/
def ordAt (H : Nat → Option Hint) (n : Nat) (ops : Array Oper) : List Nat := match H (n + 1000000) with | some h => h.map (·.1) | none => List.range ops.size
/-- two that stand next to each other change places -/
def swapAt (ord : List Nat) (n : Nat) : List Nat := (ord.set n (atP ord (n + 1))).set (n + 1) (atP ord n)
/-- quiet ones up to place n, two there that may come in either order -/
def swapOk (P : Program) (frs : Frs) (ops : Array Oper) (ord : List Nat) (n : Nat) : Bool :=
  decide (n + 1 < ops.size) && staticS P frs ops ord n && staticS P frs ops (swapAt ord n) n && ((List.range n).all fun i => match ops[atP ord i]? with | some o => quietK P frs o | none => false) && (match ops[atP ord n]? with | some o => !quietK P frs o | none => false)
/-- the place of such two, told beside the hints -/
def swapHint (H : Nat → Option Hint) (n : Nat) : Option Nat := (H (n + 2000000)).map List.length
/-- may a region's order be drawn -/
def drawSafe (P : Program) (frs : Frs) (ops : Array Oper) (ord : List Nat) : Bool := staticB P frs ops ord
/-- either order gives the same -/
noncomputable def swapK (ops : Array Oper) (k : Nat) (K : St → Option ω) (ord : List Nat) (s : Nat) (σ : St) : Option ω :=
  allK 2 fun i => br (.ieq i 0) (regK P Φ frs ops k K ((ordOps ops ord).drop s) σ) (regK P Φ frs ops k K ((ordOps ops (swapAt ord s)).drop s) σ)
/-- a region whose order is drawn -/
noncomputable def drawnK (ops : Array Oper) (k : Nat) (K : St → Option ω) (ord : List Nat) : Option Nat → St → Option ω
  | none, σ => if drawSafe P frs ops ord then regK P Φ frs ops k K (ordOps ops ord) σ else none
  | some s, σ => if swapOk P frs ops ord s then regK P Φ frs ops k (swapK P Φ frs ops k K ord s) ((ordOps ops ord).take s) σ else none
variable (H : Nat → Option Hint) (J : Nat → St → Option ω) (k : Nat)
noncomputable def denC : Code → Nat → (St → Option ω) → (Nat → St → Option ω) → (St → Option ω) → St → Option ω
  | .skip, _, Kn, _, _, σ => Kn σ
  | .region _ ops draw, n, Kn, _, _, σ => if draw then drawnK P Φ frs ops k Kn (ordAt H n ops) (swapHint H n) σ else regK P Φ frs ops k Kn (ops.toList.map fun o => (o, [])) σ
  | .seq a b, n, Kn, Kx, Kr, σ =>
    let m := n + 1 + csz a
    denC a (n + 1) (match (if isLoop b then none else H m) with | some h => fun σ => J m (canon h σ) | none => denC b m Kn Kx Kr) Kx Kr σ
  | .cond c a b, n, Kn, Kx, Kr, σ => onCd (opnd σ c) fun c => br c (denC a (n + 1) Kn Kx Kr σ) (denC b (n + 1 + csz a) Kn Kx Kr σ)
  | .block id c, n, Kn, Kx, Kr, σ => denC c (n + 1) Kn (fun i σ => if i = id then Kn σ else Kx i σ) Kr σ
  | .loop _, n, _, _, _, σ => match H n with | some h => J n (canon h σ) | none => none
  | .exit id, _, _, Kx, _, σ => Kx id σ
  | .ret, _, _, _, Kr, σ => Kr σ
  | _, _, _, _, _, _ => none
/-- from the point numbered l on -/
noncomputable def denAt (l : Nat) : Code → Nat → (St → Option ω) → (Nat → St → Option ω) → (St → Option ω) → St → Option ω
  | .seq a b, n, Kn, Kx, Kr, σ =>
    let m := n + 1 + csz a
    if l < m then denAt l a (n + 1) (match (if isLoop b then none else H m) with | some h => fun σ => J m (canon h σ) | none => denC P Φ frs H J k b m Kn Kx Kr) Kx Kr σ
    else if l = m ∧ isLoop b = false then denC P Φ frs H J k b m Kn Kx Kr σ
    else denAt l b m Kn Kx Kr σ
  | .cond _ a b, n, Kn, Kx, Kr, σ => if l < n + 1 + csz a then denAt l a (n + 1) Kn Kx Kr σ else denAt l b (n + 1 + csz a) Kn Kx Kr σ
  | .block id c, n, Kn, Kx, Kr, σ => denAt l c (n + 1) Kn (fun i σ => if i = id then Kn σ else Kx i σ) Kr σ
  | .loop c, n, _, Kx, Kr, σ => match H n with
    | none => none
    | some h => if l = n then denC P Φ frs H J k c (n + 1) (fun σ => J n (canon h σ)) Kx Kr σ
      else denAt l c (n + 1) (fun σ => J n (canon h σ)) Kx Kr σ
  | _, _, _, _, _, _ => none
end

/-! ### functions -/
def resK {ω : Type} (P : Program) (σ : St) : List (ResultVar) → (List AV → Option ω) → Option ω
  | [], K => K []
  | .tmp t :: r, K => resK P σ r fun l => K (σ.get t :: l)
  | .cell a t :: r, K => loadK P σ t (σ.get a) fun v => resK P σ r fun l => K (v :: l)
/-- the results as data: one as itself, several as a row of them -/
def resD (m : List AO) : (τ : Sh) → List AV → Option (sem τ × Bool)
  | .unit, [] => some ((), true)
  | .pair a b, v :: l => match data a (v.view m), resD m b l with
    | some (x, f), some (y, g) => some ((x, y), f && g)
    | _, _ => none
  | _, _ => none
structure Fun where
  prog : Program
  fn : Nat
  hints : List (Nat × Hint)
  frs : Frs
  wantFresh : Bool
def Fun.h (F : Fun) (n : Nat) : Option Hint := (F.hints.find? (·.1 == n)).map (·.2)
def retK (F : Fun) (fn : Func) (τ : Sh) (σ : St) : Option (sem τ) :=
  resK F.prog σ fn.results.toList fun l => match l with
    | [v] => (match data τ (v.view σ.mem) with | some (x, f) => if f || !F.wantFresh then some x else none | none => none)
    | l => (match resD σ.mem τ l with | some (x, f) => if f || !F.wantFresh then some x else none | none => none)
noncomputable def Fun.den (F : Fun) (Φ : Nat → Nat → List AV → (τ : Sh) → Option (sem τ)) (τ : Sh) : Nat → Nat → St → Option (sem τ)
  | 0, _, _ => none
  | k + 1, l, σ => match F.prog.funcs[F.fn]? with
    | some fn => (match fn.body with
      | some c => denAt F.prog Φ F.frs F.h (F.den Φ τ k) k l c 0 (retK F fn τ) (fun _ _ => none) (retK F fn τ) σ
      | none => none)
    | none => none
/-- data, one behind the other -/
def resH : (τ : Sh) → List AV → Option (sem τ)
  | .unit, [] => some ()
  | .pair a b, v :: l => match data a v, resH b l with | some (x, _), some y => some (x, y) | _, _ => none
  | _, _ => none
/-- the end of a call to which memory was handed over -/
def retM (F : Fun) (fn : Func) (M : Mode) (τ : Sh) (σ : St) : Option (sem τ) :=
  resK F.prog σ fn.results.toList fun l0 =>
    let p := subIn M.res l0 σ
    let q := nilInA M.mem M.res p.2 p.1
    let σ1 := nilBoxes M.mem M.mem (List.range p.1.pin) (subBoxes M.mem (List.range p.1.pin) q.1)
    let ord := reach σ1.mem 3 (addNew (List.range p.1.pin) (AV.idsL σ1.mem q.2))
    if nodupB ord && (ord.length == M.mem.length && p.1.pin == M.nin && decide (τ = M.sh)) then
      (match TV.takes M.res (AV.renL (newId ord) q.2), TO.takes M.mem (ord.map fun i => (σ1.obj i).ren (newId ord)) with
      | some a, some b => resH τ (a ++ b)
      | _, _ => none)
    else none
noncomputable def Fun.denG {ω : Type} (F : Fun) (Φ : Nat → Nat → List AV → (τ : Sh) → Option (sem τ)) (ret : Func → St → Option ω) : Nat → Nat → St → Option ω
  | 0, _, _ => none
  | k + 1, l, σ => match F.prog.funcs[F.fn]? with
    | some fn => (match fn.body with
      | some c => denAt F.prog Φ F.frs F.h (F.denG Φ ret k) k l c 0 (ret fn) (fun _ _ => none) (ret fn) σ
      | none => none)
    | none => none
noncomputable def Fun.runG {ω : Type} (F : Fun) (Φ : Nat → Nat → List AV → (τ : Sh) → Option (sem τ)) (ret : Func → St → Option ω) (k : Nat) (start : Nat → St) : Option ω :=
  match F.prog.funcs[F.fn]? with
  | some fn => (match fn.body with
    | some c => denC F.prog Φ F.frs F.h (F.denG Φ ret k) k c 0 (ret fn) (fun _ _ => none) (ret fn) (start fn.ntmps)
    | none => none)
  | none => none
noncomputable def Fun.runM (F : Fun) (M : Mode) (Φ : Nat → Nat → List AV → (τ : Sh) → Option (sem τ)) (k : Nat) (args : List AV) (τ : Sh) : Option (sem τ) :=
  match args with
  | .agg objs :: rest => F.runG Φ (fun fn => retM F fn M τ) k fun n => ⟨rest ++ List.replicate (n - rest.length) .undef, objs.map decO, objs.length⟩
  | _ => none
noncomputable def Fun.denM (F : Fun) (M : Mode) (Φ : Nat → Nat → List AV → (τ : Sh) → Option (sem τ)) (τ : Sh) (k l : Nat) (σ : St) : Option (sem τ) := F.denG Φ (fun fn => retM F fn M τ) k l σ
noncomputable def Fun.run (F : Fun) (Φ : Nat → Nat → List AV → (τ : Sh) → Option (sem τ)) (k : Nat) (args : List AV) (τ : Sh) : Option (sem τ) :=
  match F.prog.funcs[F.fn]? with
  | some fn => (match fn.body with
    | some c => denC F.prog Φ F.frs F.h (F.den Φ τ k) k c 0 (retK F fn τ) (fun _ _ => none) (retK F fn τ) ⟨args ++ List.replicate (fn.ntmps - args.length) .undef, [], 0⟩
    | none => none)
  | none => none
end Go.Den
