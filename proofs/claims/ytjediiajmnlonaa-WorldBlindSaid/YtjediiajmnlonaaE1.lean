/- An executor for functions of the program over a small memory of named pieces: definitions alone. No condition. -/
import Derived.Test.YtjediiajmnlonaaBase
import Derived.KernelRfl
import Derived.Wp
import Derived.StillTail
namespace Go.Proofs.Ytjediiajmnlonaa

/-- A value in which blocks go by names. -/
inductive SV where
  | v (x : Value)
  | ptr (n off : Nat)
  | sl (n off idx len : Nat)
  | slE (n : Nat)
  | tptr (n i j : Nat)
  | tsl (n len : Nat)
  | mp (n : Nat)
  | ifc (t : TypeId) (x : SV)
  | agg (l : List SV)
  | tup (l : List SV)
  | clo (fn : Fn) (first cap : List SV)
  deriving Inhabited

/-- What stands behind a name: a block, and where in it; how many elements it has room for; of a table how wide and long it is; an address. -/
structure Spot where
  b : Nat
  cap : Nat
  off : Nat
  sz : Nat
  len : Nat
  ad : Option Addr

abbrev Names := Nat → Option Spot

mutual
def den (ρ : Names) : SV → Option Value
  | .v x => some x
  | .ptr n off => (ρ n).map fun e => .pointer (some ⟨e.b, e.off + off, none⟩)
  | .sl n off idx len => (ρ n).map fun e => .slice (some ⟨e.b, e.off + off, none⟩) len (e.cap - idx)
  | .slE n => (ρ n).map fun e => .slice e.ad 0 e.cap
  | .tptr n i j => match ρ n with
    | some e => if i < e.len then some (.pointer (some ⟨e.b, e.off + i * e.sz + j, none⟩)) else none
    | none => none
  | .tsl n len => (ρ n).map fun e => .slice e.ad len e.cap
  | .mp n => (ρ n).map fun e => .map (some e.b)
  | .ifc t x => (den ρ x).map (.iface t)
  | .agg l => (denL ρ l).map fun vs => .agg vs.toArray
  | .tup l => (denL ρ l).map fun vs => .tuple vs.toArray
  | .clo fn f c => match denL ρ f, denL ρ c with
    | some a, some b => some (.func fn a.toArray b.toArray)
    | _, _ => none
def denL (ρ : Names) : List SV → Option (List Value)
  | [] => some []
  | x :: l => match den ρ x, denL ρ l with
    | some a, some b => some (a :: b)
    | _, _ => none
end

inductive Chunk (R : Type) where
  | row (l : List SV) (t : TypeId)
  | tab (f : Nat → List SV) (len : Nat) (t : TypeId)
  | emp
  | rep (r : R)

structure St (R : Type) where
  hp : List (Nat × Chunk R)
  nx : Nat
  fr : List Nat
  wr : List Nat
  ask : List (Bool × Bool)
  ora : List (Option Bool)

inductive Res (R : Type) (α : Type) where
  | ok (a : α) (s : St R)
  | no (why : Nat) (ask : List (Bool × Bool))

def M (R : Type) (α : Type) := St R → Res R α

section
variable {R : Type} {α β : Type}
def M.ret (a : α) : M R α := fun s => .ok a s
def M.bind (m : M R α) (f : α → M R β) : M R β := fun s => match m s with
  | .ok a s' => f a s'
  | .no e l => .no e l
def M.fail (e : Nat) : M R α := fun s => .no e s.ask
def M.opt (e : Nat) : Option α → M R α
  | some a => M.ret a
  | none => M.fail e

def hget (n : Nat) : List (Nat × Chunk R) → Option (Chunk R)
  | [] => none
  | (m, c) :: r => match Nat.beq n m with
    | true => some c
    | false => hget n r
def hset (n : Nat) (c : Chunk R) : List (Nat × Chunk R) → List (Nat × Chunk R)
  | [] => []
  | (m, d) :: r => match Nat.beq n m with
    | true => (m, c) :: r
    | false => (m, d) :: hset n c r
def hdel (n : Nat) : List (Nat × Chunk R) → List (Nat × Chunk R)
  | [] => []
  | (m, d) :: r => match Nat.beq n m with
    | true => hdel n r
    | false => (m, d) :: hdel n r
def memN (n : Nat) : List Nat → Bool
  | [] => false
  | m :: r => match Nat.beq n m with
    | true => true
    | false => memN n r
def insN (n : Nat) (l : List Nat) : List Nat := match memN n l with
  | true => l
  | false => n :: l
def uniN (a b : List Nat) : List Nat := a.foldr insN b

def getC (n : Nat) : M R (Chunk R) := fun ⟨hp, nx, fr, wr, ak, oc⟩ => match hget n hp with
  | some c => .ok c ⟨hp, nx, insN n fr, wr, ak, oc⟩
  | none => .no 10 ak
def setC (n : Nat) (c : Chunk R) : M R Unit := fun ⟨hp, nx, fr, wr, ak, oc⟩ => match hget n hp with
  | some _ => .ok () ⟨hset n c hp, nx, insN n fr, insN n wr, ak, oc⟩
  | none => .no 11 ak
def delC (n : Nat) : M R Unit := fun ⟨hp, nx, fr, wr, ak, oc⟩ => match hget n hp with
  | some _ => .ok () ⟨hdel n hp, nx, insN n fr, insN n wr, ak, oc⟩
  | none => .no 12 ak
def newC (c : Chunk R) : M R Nat := fun ⟨hp, nx, fr, wr, ak, oc⟩ => .ok nx ⟨(nx, c) :: hp, nx + 1, fr, wr, ak, oc⟩
def askB (b : Bool) : M R Bool := fun ⟨hp, nx, fr, wr, ak, oc⟩ => match oc with
  | some o :: r => .ok o ⟨hp, nx, fr, wr, (b, o) :: ak, r⟩
  | none :: r => .ok b ⟨hp, nx, fr, wr, ak, r⟩
  | [] => .ok b ⟨hp, nx, fr, wr, ak, []⟩
/-- A test that must come out so. -/
def need (e : Nat) (b : Bool) : M R Unit := (askB b).bind fun
  | true => .ret ()
  | false => .fail e
/-- A test that is decided by the text. -/
def want (e : Nat) (b : Bool) : M R Unit := match b with
  | true => .ret ()
  | false => .fail e

def pureRun {α : Type} (P : Program) : Sem α → Option α
  | .pure a => some a
  | .program k => pureRun P (k P)
  | _ => none

def SV.cells : SV → List SV
  | .agg l => l
  | .v (.agg cs) => cs.toList.map .v
  | x => [x]
def SV.oneC : SV → Bool
  | .v x => x.oneCell
  | .agg _ => false
  | .tup _ => false
  | _ => true
def isAggV : SV → Bool
  | .agg _ => true
  | .v (.agg _) => true
  | _ => false
def szT (P : Program) (t : TypeId) : Option Nat := (P.info? t).map (·.size)
def zeroT (P : Program) (t : TypeId) : Option (List SV) := ((P.info? t).bind (·.zero)).map fun z => z.cells.toList.map .v
def aggT (P : Program) (t : TypeId) : Option Bool := match P.underlying t with
  | some (.struct _) => some true
  | some (.array _ _) => some true
  | some _ => some false
  | none => none
def cut (l : List SV) (off k : Nat) : Option (List SV) := match Nat.beq ((l.drop off).take k).length k with
  | true => some ((l.drop off).take k)
  | false => none
def partX (P : Program) (t : TypeId) (l : List SV) (off : Nat) : Option SV := match aggT P t with
  | some true => (szT P t).bind fun k => (cut l off k).map .agg
  | some false => l[off]?
  | none => none
def splice (l : List SV) (off : Nat) (cs : List SV) : List SV := l.take off ++ (cs ++ l.drop (off + cs.length))

def loadX (P : Program) (t : TypeId) : SV → M R SV
  | .ptr n off => (getC n).bind fun
    | .row l _ => .opt 20 (partX P t l off)
    | _ => .fail 21
  | .tptr n i j => (getC n).bind fun
    | .tab f _ _ => .opt 22 (partX P t (f i) j)
    | _ => .fail 23
  | _ => .fail 24
def storeX (P : Program) (t : TypeId) (v : SV) : SV → M R Unit
  | .ptr n off => (getC n).bind fun
    | .row l t' => (M.opt 30 (szT P t)).bind fun k => (want 31 (Nat.beq v.cells.length k && Nat.ble (off + k) l.length && v.cells.all SV.oneC)).bind fun _ =>
      setC n (.row (splice l off v.cells) t')
    | _ => .fail 32
  | _ => .fail 33

def fieldOf (P : Program) (s : TypeId) (f : Nat) : Option Field := match P.underlying s with
  | some (.struct fs) => fs[f]?
  | _ => none
def fieldAddrX (P : Program) (s : TypeId) (f : Nat) (x : SV) : Option SV := match fieldOf P s f with
  | some fd => match szT P fd.type with
    | some (_ + 1) => match x with
      | .ptr n off => some (.ptr n (off + fd.offset))
      | .tptr n i j => some (.tptr n i (j + fd.offset))
      | _ => none
    | _ => none
  | none => none
def fieldX (P : Program) (s : TypeId) (f : Nat) (x : SV) : Option SV := match fieldOf P s f with
  | some fd => match isAggV x with
    | true => partX P fd.type x.cells fd.offset
    | false => none
  | none => none

def fillX (place : Nat → Option (Nat × Nat)) (cells : List SV) : List (Nat × SV) → Option (List SV)
  | [] => some cells
  | (i, v) :: rest => match place i with
    | none => none
    | some (off, size) => match (Nat.beq v.cells.length size && Nat.ble (off + size) cells.length) with
      | true => fillX place (splice cells off v.cells) rest
      | false => none
def buildX (P : Program) (t : TypeId) (parts : List (Nat × SV)) : Option SV := match P.underlying t with
  | some (.struct fs) => match fs.all fun f => (szT P f.type).isSome with
    | true => (zeroT P t).bind fun z => (fillX (fun i => match fs[i]? with | some f => (szT P f.type).map fun k => (f.offset, k) | none => none) z parts).map .agg
    | false => none
  | some (.array _ elem) => (zeroT P t).bind fun z => (szT P elem).bind fun k => (fillX (fun i => some (i * k, k)) z parts).map .agg
  | _ => none
def zerosX (P : Program) (elem : TypeId) (n : Nat) : Option (List SV) := (P.info? elem).bind fun i => i.zero.bind fun z => match z.cells.size with
  | 0 => none
  | _ + 1 => some ((List.range n).map fun j => .v z.cells[j % z.cells.size]!)
def buildSliceX (P : Program) (t : TypeId) (len : Nat) (parts : List (Nat × SV)) : Option (TypeId × List SV) := match P.underlying t with
  | some (.slice elem) => (szT P elem).bind fun k => match (Nat.ble (len * k) 16777216 && !Nat.beq k 0) with
    | true => (zerosX P elem (len * k)).bind fun z => (fillX (fun i => some (i * k, k)) z parts).map fun l => (elem, l)
    | false => none
  | _ => none

def eqF (f : Field → Option Bool) : List Field → Option Bool
  | [] => some true
  | fd :: r => match fd.name != "_" with
    | true => match f fd, eqF f r with
      | some a, some b => some (a && b)
      | _, _ => none
    | false => eqF f r
def eqX (P : Program) : Nat → TypeId → List SV → List SV → Option Bool
  | 0, _, _, _ => none
  | d + 1, t, xs, ys => match P.underlying t with
    | some .bool => match xs, ys with
      | [.v (.bool a)], [.v (.bool b)] => some (a == b)
      | _, _ => none
    | some (.int _) => match xs, ys with
      | [.v (.int k a)], [.v (.int k' b)] => if k = k' then some (a == b) else none
      | _, _ => none
    | some .string => match xs, ys with
      | [.v (.string a)], [.v (.string b)] => some (a == b)
      | _, _ => none
    | some (.struct fs) => match P.stoodInHeld t with
      | true => none
      | false => eqF (fun fd => match szT P fd.type, aggT P fd.type with
        | some (k + 1), some g => match (g || Nat.beq k 0), cut xs fd.offset (k + 1), cut ys fd.offset (k + 1) with
          | true, some a, some b => eqX P d fd.type a b
          | _, _, _ => none
        | _, _ => none) fs.toList
    | _ => none
/-- Whether a value is nil, where one sees it. -/
def nilX (d : Option TypeDesc) (a b : SV) : Option Bool := match d, a, b with
  | some (.pointer _), .ptr _ _, .v (.pointer none) => some false
  | some (.pointer _), .v (.pointer none), .ptr _ _ => some false
  | some (.interface _), .ifc _ _, .v .nilIface => some false
  | some (.interface _), .v .nilIface, .ifc _ _ => some false
  | some (.func _ _ _), .clo _ _ _, .v .nilFunc => some false
  | some (.func _ _ _), .v .nilFunc, .clo _ _ _ => some false
  | some (.slice _), .sl _ _ _ _, .v (.slice none _ _) => some false
  | _, _, _ => none
def eqlX (P : Program) (t : TypeId) (a b : SV) : Option Bool := match nilX (P.underlying t) a b with
  | some r => some r
  | none => match isAggV a && isAggV b && !P.eqGuardType P.depth t && (match aggT P t with | some true => true | _ => false) with
    | true => eqX P 50 t a.cells b.cells
    | false => none
def noGuard : Value → Bool
  | .nilIface => false
  | .agg _ => false
  | _ => true
def eqNe (op : BinOp) (r : Option Bool) : Option SV := match op with
  | .eql => r.map fun r => .v (.bool r)
  | .neq => r.map fun r => .v (.bool !r)
  | _ => none
def binX (P : Program) (op : BinOp) (t : TypeId) (a b : SV) : Option SV := match a, b with
  | .v x, .v y => match noGuard x with
    | true => (pureRun P (binOp op t x y)).map .v
    | false => eqNe op (eqlX P t a b)
  | _, _ => eqNe op (eqlX P t a b)

def nilNil (d : Option TypeDesc) (a b : SV) (y : Operand) : Bool := match d, a, b, y with
  | some (.interface _), .v .nilIface, .v .nilIface, .const _ => true
  | _, _, _, _ => false
def lenX (P : Program) (t ty : TypeId) : SV → Option SV
  | .sl _ _ _ n => match P.underlying t with
    | some (.slice _) => some (.v (.int .i64 n))
    | _ => none
  | .tsl _ n => match P.underlying t with
    | some (.slice _) => some (.v (.int .i64 n))
    | _ => none
  | .slE _ => match P.underlying t with
    | some (.slice _) => some (.v (.int .i64 (0 : Nat)))
    | _ => none
  | .v x => (pureRun P (Builtin.len_ #[t] ty #[x])).map .v
  | _ => none

def idxX (P : Program) (t : TypeId) (x : SV) : SV → M R SV
  | .v (.int _ i) => match P.underlying t with
    | some (.slice elem) => match x with
      | .sl n off _ len => (need 40 (decide (0 ≤ i ∧ i < (len : Int)))).bind fun _ => (M.opt 41 (szT P elem)).bind fun k => .ret (.ptr n (off + i.toNat * k))
      | .tsl n len => (getC n).bind fun
        | .tab _ len' t' => (want 45 (Nat.beq t' elem && (P.info? elem).isSome)).bind fun _ => (need 42 (decide (0 ≤ i ∧ i < (len : Int) ∧ len = len'))).bind fun _ => .ret (.tptr n i.toNat 0)
        | _ => .fail 46
      | _ => .fail 43
    | some (.array len elem) => match x with
      | .ptr n off => (need 47 (decide (0 ≤ i ∧ i < (len : Int)))).bind fun _ => (M.opt 48 (szT P elem)).bind fun k => .ret (.ptr n (off + i.toNat * k))
      | _ => .fail 49
    | _ => .fail 50
  | _ => .fail 44

def intSV : SV → Option Int
  | .v (.int _ n) => some n
  | _ => none
def natOf : SV → Option Nat
  | .v (.int _ (.ofNat n)) => some n
  | _ => none
def sliceX (P : Program) (t : TypeId) (x : SV) (lo hi : Option SV) : M R SV := match P.underlying t with
  | some (.slice elem) => match x with
    | .sl n off idx len => (M.opt 60 (match lo with | some s => natOf s | none => some 0)).bind fun l => (M.opt 61 (match hi with | some s => natOf s | none => some len)).bind fun h =>
      (M.opt 62 (szT P elem)).bind fun k => (want 63 (Nat.ble l h && Nat.ble h len && !Nat.beq k 0)).bind fun _ => (getC n).bind fun
        | .row cs t' => (want 64 (Nat.beq t' elem && Nat.ble ((idx + len) * k) cs.length && Nat.beq off (idx * k))).bind fun _ => match Nat.beq l h with
          | true => (newC .emp).bind fun m => .ret (.slE m)
          | false => .ret (.sl n (off + l * k) (idx + l) (h - l))
        | _ => .fail 65
    | _ => .fail 66
  | _ => .fail 67

/-- The cells to be appended. -/
def srcX (k : Nat) : SV → M R (Nat × List SV)
  | .v (.slice none 0 _) => .ret (0, [])
  | .slE n => (getC n).bind fun
    | .emp => .ret (0, [])
    | _ => .fail 70
  | .sl n off _ len => (getC n).bind fun
    | .row l _ => (M.opt 71 (cut l off (len * k))).bind fun cs => .ret (len, cs)
    | _ => .fail 72
  | _ => .fail 73
def isSliceT (P : Program) (t : Option TypeId) : Bool := match t with
  | some t => match P.underlying t with
    | some (.slice _) => true
    | _ => false
  | none => false
def zeroFits (i : TypeInfo) : Bool := match i.zero with
  | some z => Nat.beq z.cells.size i.size
  | none => false
def appendX (P : Program) (t : TypeId) (tx : Option TypeId) (s x : SV) : M R SV := match P.underlying t with
  | some (.slice elem) => (M.opt 80 (P.info? elem)).bind fun i => (want 81 (!Nat.beq i.size 0 && !Nat.beq i.bytes 0 && zeroFits i && isSliceT P tx)).bind fun _ => (srcX i.size x).bind fun r => match s with
    | .v (.slice none 0 0) => match r.1 with
      | 0 => .ret (.v (.slice none 0 0))
      | m + 1 => (want 82 (r.2.all SV.oneC)).bind fun _ => (need 83 (decide ((m + 1) * i.bytes ≤ 140737488351232))).bind fun _ => (newC (.row r.2 elem)).bind fun n => .ret (.sl n 0 0 (m + 1))
    | .slE n => match r.1 with
      | 0 => .ret (.slE n)
      | _ + 1 => .fail 90
    | .sl n off idx len => (getC n).bind fun
      | .row l t' => (want 84 (Nat.beq t' elem && Nat.beq off (idx * i.size) && Nat.ble ((idx + len) * i.size) l.length)).bind fun _ => match r.1 with
        | 0 => .ret (.sl n off idx len)
        | m + 1 => (want 86 (Nat.beq l.length ((idx + len) * i.size) && r.2.all SV.oneC)).bind fun _ =>
          (need 85 (decide ((len + m + 1) * i.bytes ≤ 140737488351232))).bind fun _ => (delC n).bind fun _ =>
          (newC (.row (l.drop off ++ r.2) elem)).bind fun n' => .ret (.sl n' 0 0 (len + m + 1))
      | _ => .fail 87
    | _ => .fail 88
  | _ => .fail 89

def copyX (P : Program) (t : TypeId) (d x : SV) : M R SV := match P.underlying t with
  | some (.slice elem) => (M.opt 90 (P.info? elem)).bind fun i => (srcX i.size x).bind fun r => match d with
    | .sl n off _ len => match Nat.min r.1 len with
      | 0 => .ret (.v (.int .i64 0))
      | m + 1 => (M.opt 91 (cut r.2 0 ((m + 1) * i.size))).bind fun cs => (getC n).bind fun
        | .row l t' => (want 92 (Nat.ble (off + (m + 1) * i.size) l.length && cs.all SV.oneC)).bind fun _ =>
          (setC n (.row (splice l off cs) t')).bind fun _ => .ret (.v (.int .i64 (m + 1 : Nat)))
        | _ => .fail 93
    | _ => .fail 94
  | _ => .fail 95

def methodX (P : Program) (t : TypeId) (name : String) : Option FuncId := match P.underlying t with
  | some (.pointer _) => match P.info? t with
    | some i => match i.methods.find? (·.name == name) with
      | some m => match m.path.isEmpty, m.func with
        | true, some (f, true) => some f
        | _, _ => none
      | none => none
    | none => none
  | _ => none

/-- Operations that neither read nor write. -/
def plainX (P : Program) (ev : Operand → Option SV) : Op → Option SV
  | .move x => ev x
  | .assign x => ev x
  | .fieldAddr s x f => (ev x).bind (fieldAddrX P s f)
  | .field s x f => (ev x).bind (fieldX P s f)
  | .nilCheck x => (ev x).bind fun
    | .ptr n o => some (.ptr n o)
    | .tptr n i j => some (.tptr n i j)
    | .ifc t y => some (.ifc t y)
    | .clo (.func f) a b => some (.clo (.func f) a b)
    | .clo (.method name) (.ifc t y :: a) b => (methodX P t name).map fun _ => .clo (.method name) (.ifc t y :: a) b
    | _ => none
  | .build t parts => (parts.toList.mapM fun p => (ev p.2).map fun s => (p.1, s)).bind (buildX P t)
  | .binOp op t x y _ => (ev x).bind fun a => (ev y).bind fun b => match nilNil (P.underlying t) a b y with
    | true => eqNe op (some true)
    | false => binX P op t a b
  | .unOp op _ x => (ev x).bind fun
    | .v a => (pureRun P (Op.unary op a)).map .v
    | _ => none
  | .convert s d x => (ev x).bind fun
    | .v a => (pureRun P (convert s d a)).map .v
    | _ => none
  | .makeInterface t x => match P.underlying t with
    | some (.interface _) => none
    | some _ => (ev x).map (.ifc t)
    | none => none
  | .makeFunc fn a b => (a.toList.mapM ev).bind fun a => (b.toList.mapM ev).map fun b => .clo fn a b
  | .extract x i => (ev x).bind fun
    | .tup l => l[i]?
    | _ => none
  | _ => none

def okFn (P : Program) (g : FuncId) : Bool := match P.funcs[g]? with
  | some fn => fn.body.isSome && fn.name != "runtime.NumGoroutine"
  | none => false
def undefX : SV := .v undef
/-- What else the executor is given: calls, and operations of structures of a kind. -/
structure Hk (R : Type) where
  fn : FuncId → List SV → M R SV
  ext : (Operand → Option SV) → Oper → Option (M R SV)
def builtinX (P : Program) : Builtin → List TypeId → TypeId → List SV → M R SV
  | .len, [t], ty, [x] => .opt 123 (lenX P t ty x)
  | .append, [t, tx], _, [s, x] => appendX P t (some tx) s x
  | .copy, [t, _], _, [d, x] => copyX P t d x
  | _, _, _, _ => .fail 126
/-- One operation: its value. -/
def opX (P : Program) (call : Hk R) (ev : Operand → Option SV) (o : Oper) : M R SV := match call.ext ev o with
  | some m => m
  | none => match o.op with
  | .pick c a b => (M.opt 100 (ev c)).bind fun
    | .v (.bool t) => (askB t).bind fun
      | true => .opt 101 (ev a)
      | false => .opt 102 (ev b)
    | _ => .fail 103
  | .load t x => (M.opt 104 (ev x)).bind (loadX P t)
  | .store t x y => (M.opt 105 (ev x)).bind fun a => (M.opt 106 (ev y)).bind fun v => (storeX P t v a).bind fun _ => .ret undefX
  | .alloc t => (M.opt 107 (zeroT P t)).bind fun z => (M.opt 141 (szT P t)).bind fun k => (want 142 (Nat.beq z.length k)).bind fun _ => (newC (.row z t)).bind fun n => .ret (.ptr n 0)
  | .box t x => (M.opt 108 (ev x)).bind fun v => (M.opt 143 (szT P t)).bind fun k => (want 144 (Nat.beq v.cells.length k)).bind fun _ => (newC (.row v.cells t)).bind fun n => .ret (.ptr n 0)
  | .buildSlice t len parts => (M.opt 109 (parts.toList.mapM fun p => (ev p.2).map fun s => (p.1, s))).bind fun ps => (M.opt 110 (buildSliceX P t len ps)).bind fun r =>
    (newC (.row r.2 r.1)).bind fun n => .ret (.sl n 0 0 len)
  | .makeSlice t len cap => (M.opt 111 ((ev len).bind intSV)).bind fun zn => (M.opt 112 ((ev cap).bind intSV)).bind fun zc => match P.underlying t with
    | some (.slice elem) => (M.opt 113 (P.info? elem)).bind fun i => (need 114 (decide (0 ≤ zn) && decide (0 ≤ zc) && (Nat.ble zn.toNat zc.toNat && Nat.ble (zc.toNat * i.bytes) 140737488351232 && Nat.ble zc.toNat 140737488351232 && !Nat.beq i.size 0))).bind fun _ =>
      (M.opt 115 (zerosX P elem (zc.toNat * i.size))).bind fun z => (newC (.row z elem)).bind fun m => .ret (.sl m 0 0 zn.toNat)
    | _ => .fail 116
  | .indexAddr t x i => (M.opt 117 (ev x)).bind fun a => (M.opt 118 (ev i)).bind (idxX P t a)
  | .slice t x lo hi none => (M.opt 119 (ev x)).bind fun a => (M.opt 120 (match lo with | some l => (ev l).map some | none => some none)).bind fun l =>
    (M.opt 121 (match hi with | some h => (ev h).map some | none => some none)).bind fun h => sliceX P t a l h
  | .call c => (M.opt 122 (c.args.toList.mapM ev)).bind fun args => match c.callee with
    | .builtin b => builtinX P b c.argTypes.toList o.type args
    | .value f => (M.opt 127 (ev f)).bind fun
      | .v (.func (.func g) a b) => (want 133 (okFn P g && Nat.beq a.size 0 && Nat.beq b.size 0)).bind fun _ => call.fn g args
      | .clo (.func g) a b => (want 134 (okFn P g)).bind fun _ => call.fn g (a ++ (args ++ b))
      | _ => .fail 128
    | .invoke r name => (M.opt 129 (ev r)).bind fun
      | .ifc t x => (M.opt 130 (methodX P t name)).bind fun g => (want 135 (okFn P g)).bind fun _ => call.fn g (x :: args)
      | _ => .fail 131
  | op => .opt 140 (plainX P ev op)

abbrev Env := List (Nat × SV)
def elook (t : Nat) : Env → Option SV
  | [] => none
  | (k, s) :: r => match Nat.beq t k with
    | true => some s
    | false => elook t r
def evX (e : Env) : Operand → Option SV
  | .tmp t => elook t e
  | .const c => some (.v c)
  | .func f => some (.v (.func (.func f) #[] #[]))
  | .global _ => none
def putX (d : Option Tmp) (s : SV) (e : Env) : Env := match d with
  | some t => (t, s) :: e
  | none => e

/-- The names of an environment as bits; and those of it alone, each once: what goes into a loop's next round. -/
def maskE : Env → Nat
  | [] => 0
  | (k, _) :: r => Nat.lor (maskE r) (Nat.pow 2 k)
def pruneE (m : Nat) : Env → Env
  | [] => []
  | (k, s) :: r => match Nat.testBit m k with
    | true => (k, s) :: pruneE (Nat.xor m (Nat.pow 2 k)) r
    | false => pruneE m r

/-- As evX, but of those temporaries alone. -/
def evR (l : List Tmp) (e : Env) : Operand → Option SV
  | .tmp t => match memN t l with
    | true => elook t e
    | false => none
  | x => evX e x

def boolOf : SV → Option Bool
  | .v (.bool b) => some b
  | _ => none
/-- One operation of a region, if it is asked for. -/
def oneX (P : Program) (call : Hk R) (ops : Array Oper) (o : Oper) (ev : Operand → Option SV) : M R SV := match o.guard with
  | none => opX P call ev o
  | some (j, w) => match (ops[j]?).bind (·.dst) with
    | some d => (M.opt 150 ((ev (.tmp d)).bind boolOf)).bind fun b => (askB b).bind fun t => match t == w with
      | true => opX P call ev o
      | false => .ret undefX
    | none => .fail 153

def seqX (P : Program) (call : Hk R) (ops : Array Oper) (sz : Nat) : List Oper → Env → M R Env
  | [], e => .ret e
  | o :: r, e => (want 151 (match o.dst with | some d => Nat.blt d sz | none => true)).bind fun _ => (oneX P call ops o (evX e)).bind fun s => seqX P call ops sz r (putX o.dst s e)

/-- What an operation of a region whose order is open has touched. -/
structure Log where
  fr : List Nat
  wr : List Nat
  lo : Nat
  hi : Nat
  looks : List Tmp
  dst : Option Tmp

def touches (l : Log) (n : Nat) : Bool := memN n l.wr || (Nat.ble l.lo n && Nat.blt n l.hi)
/-- Whether two operations, the first ahead in the text, must not change places. -/
def clash (a b : Log) : Bool := b.fr.any (touches a) || a.fr.any (touches b) ||
  (match a.dst with | some d => memN d b.looks || (match b.dst with | some d' => Nat.beq d d' | none => false) | none => false) || (match b.dst with | some d => memN d a.looks | none => false)

def St.bare (st : St R) : St R := match st with
  | ⟨hp, nx, _, _, ak, oc⟩ => ⟨hp, nx, [], [], ak, oc⟩
def St.join (t s : St R) : St R := match t, s with
  | ⟨hp, nx, fr, wr, ak, oc⟩, ⟨_, _, fr', wr', _, _⟩ => ⟨hp, nx, uniN fr fr', uniN wr wr', ak, oc⟩
def logOf (s t : St R) (ops : Array Oper) (o : Oper) : Log := ⟨t.fr, t.wr, s.nx, t.nx, o.looksAt ops, o.dst⟩
def drawX (P : Program) (call : Hk R) (ops : Array Oper) (sz : Nat) : List Oper → List Log → Env → M R (Env × List Log)
  | [], ls, e => .ret (e, ls)
  | o :: r, ls, e => (want 152 ((match o.dst with | some d => Nat.blt d sz | none => true) && o.after.all fun e => !Region.binds .any e || Nat.blt e.on ls.length)).bind fun _ => fun st =>
    match oneX P call ops o (evR (o.looksAt ops) e) st.bare with
    | .ok s t => drawX P call ops sz r (logOf st t ops o :: ls) (putX o.dst s e) (t.join st)
    | .no w l => .no w l

/-- Those that stand ahead of an operation by the region's edges, as bits. -/
def maskOf (acc : List Nat) (o : Oper) : Nat := o.after.toList.foldr (fun e s => match Region.binds .any e && Nat.blt e.on acc.length with
  | true => (s ||| 2 ^ e.on) ||| acc.getD (acc.length - 1 - e.on) 0
  | false => s) 0
def masks : List Oper → List Nat → List Nat
  | [], acc => acc
  | o :: r, acc => masks r (maskOf acc o :: acc)
/-- Each pair that may not change places stands in order by the region's edges. -/
def ordered : List Nat → List Log → Bool
  | _, [] => true
  | [], _ :: _ => false
  | m :: ms, l :: r => (r.zipIdx.all fun p => !clash p.1 l || m.testBit (r.length - 1 - p.2)) && ordered ms r

inductive Ex where
  | nor
  | ret
  | out (id : Nat)

def resX (P : Program) (e : Env) : List ResultVar → M R (List SV)
  | [] => .ret []
  | .tmp t :: r => (M.opt 162 (elook t e)).bind fun s => (resX P e r).bind fun l => .ret (s :: l)
  | .cell a t :: r => (M.opt 165 (elook a e)).bind fun x => (loadX P t x).bind fun s => (resX P e r).bind fun l => .ret (s :: l)
def oneOf : List SV → SV
  | [x] => x
  | l => .tup l

/-- Names below a bound, or among those of l. -/
def ptrsOf : SV → List Nat
  | .ptr n _ => [n]
  | .sl n _ _ _ => [n]
  | .slE n => [n]
  | .mp n => [n]
  | .ifc _ x => ptrsOf x
  | _ => []
def ptrsAll : SV → List Nat
  | .agg l => l.foldr (fun s a => ptrsOf s ++ a) []
  | .tup l => l.foldr (fun s a => ptrsAllOf s ++ a) []
  | .clo _ a b => a.foldr (fun s a => ptrsOf s ++ a) (b.foldr (fun s a => ptrsOf s ++ a) [])
  | x => ptrsOf x
where
  ptrsAllOf : SV → List Nat
  | .agg l => l.foldr (fun s a => ptrsOf s ++ a) []
  | x => ptrsOf x
def chunkPtrs : Chunk R → List Nat
  | .row l _ => l.foldr (fun s a => ptrsAll s ++ a) []
  | _ => []
/-- Those from lo on that one comes to. -/
def reachX (lo : Nat) (hp : List (Nat × Chunk R)) : Nat → List Nat → List Nat → List Nat
  | 0, _, seen => seen
  | _ + 1, [], seen => seen
  | k + 1, n :: todo, seen => match Nat.blt n lo || memN n seen with
    | true => reachX lo hp k todo seen
    | false => match hget n hp with
      | some c => reachX lo hp k (chunkPtrs c ++ todo) (n :: seen)
      | none => reachX lo hp k todo seen
def keepX (lo : Nat) (keep : List Nat) : List (Nat × Chunk R) → List (Nat × Chunk R)
  | [] => []
  | (n, c) :: r => match Nat.blt n lo || memN n keep with
    | true => (n, c) :: keepX lo keep r
    | false => keepX lo keep r
def cutN (lo : Nat) (base l : List Nat) : List Nat := l.filter fun n => Nat.blt n lo || memN n base
/-- Behind a call: what it made, and nobody comes to, is forgotten. -/
def sweepSt (st : St R) (s : SV) : St R → St R := fun ⟨hp, nx, fr, wr, ak, oc⟩ => match st with
  | ⟨_, lo, fr0, wr0, _, _⟩ => match Nat.beq lo nx with
    | true => ⟨hp, nx, fr, wr, ak, oc⟩
    | false => ⟨keepX lo (reachX lo hp 1000 (wr.foldr (fun n a => match Nat.blt n lo with | true => (match hget n hp with | some c => chunkPtrs c ++ a | none => a) | false => a) (ptrsAll s)) []) hp, nx, cutN lo fr0 fr, cutN lo wr0 wr, ak, oc⟩

/-! Values reckoned out: for the kernel's sake; each is the value itself. -/
def fNat {β : Type} (n : Nat) (k : Nat → β) : β := match n with
  | 0 => k 0
  | m + 1 => k (m + 1)
def fInt {β : Type} (z : Int) (k : Int → β) : β := match z with
  | .ofNat n => fNat n fun m => k (.ofNat m)
  | .negSucc n => fNat n fun m => k (.negSucc m)
def fBool {β : Type} (b : Bool) (k : Bool → β) : β := match b with
  | true => k true
  | false => k false
def fVal {β : Type} (x : Value) (k : Value → β) : β := match x with
  | .int kd z => fInt z fun z => k (.int kd z)
  | .bool b => fBool b fun b => k (.bool b)
  | x => k x
def fC0 {β : Type} (s : SV) (k : SV → β) : β := match s with
  | .v x => fVal x fun x => k (.v x)
  | .ptr n o => fNat n fun n => fNat o fun o => k (.ptr n o)
  | .sl n o i l => fNat n fun n => fNat o fun o => fNat i fun i => fNat l fun l => k (.sl n o i l)
  | .mp n => fNat n fun n => k (.mp n)
  | .slE n => fNat n fun n => k (.slE n)
  | x => k x
def fL0 {β : Type} : List SV → (List SV → β) → β
  | [], k => k []
  | x :: l, k => fC0 x fun x => fL0 l fun l => k (x :: l)
def fC1 {β : Type} (s : SV) (k : SV → β) : β := match s with
  | .ifc t x => fC0 x fun x => k (.ifc t x)
  | .clo fn a b => fL0 a fun a => fL0 b fun b => k (.clo fn a b)
  | x => fC0 x k
def fL1 {β : Type} : List SV → (List SV → β) → β
  | [], k => k []
  | x :: l, k => fC1 x fun x => fL1 l fun l => k (x :: l)
def fS {β : Type} (s : SV) (k : SV → β) : β := match s with
  | .agg l => fL1 l fun l => k (.agg l)
  | x => fC1 x k
def fLS {β : Type} : List SV → (List SV → β) → β
  | [], k => k []
  | x :: l, k => fS x fun x => fLS l fun l => k (x :: l)
def fTop {β : Type} (s : SV) (k : SV → β) : β := match s with
  | .tup l => fLS l fun l => k (.tup l)
  | x => fS x k
def fNats {β : Type} : List Nat → (List Nat → β) → β
  | [], k => k []
  | x :: l, k => fNat x fun x => fNats l fun l => k (x :: l)
def fChunk {β : Type} (fR : R → (R → β) → β) (c : Chunk R) (k : Chunk R → β) : β := match c with
  | .row l t => fL1 l fun l => k (.row l t)
  | .rep r => fR r fun r => k (.rep r)
  | c => k c
def fHp {β : Type} (fR : R → (R → β) → β) : List (Nat × Chunk R) → (List (Nat × Chunk R) → β) → β
  | [], k => k []
  | (n, c) :: r, k => fNat n fun n => fChunk fR c fun c => fHp fR r fun r => k ((n, c) :: r)
def fSt {β : Type} (fR : R → (R → β) → β) (st : St R) (k : St R → β) : β := match st with
  | ⟨hp, nx, fr, wr, ak, oc⟩ => fHp fR hp fun hp => fNat nx fun nx => fNats fr fun fr => fNats wr fun wr => k ⟨hp, nx, fr, wr, ak, oc⟩
section
variable {β : Type}
theorem fNat_eq (n : Nat) (k : Nat → β) : fNat n k = k n := by cases n <;> rfl
theorem fInt_eq (z : Int) (k : Int → β) : fInt z k = k z := by cases z <;> simp [fInt, fNat_eq]
theorem fBool_eq (b : Bool) (k : Bool → β) : fBool b k = k b := by cases b <;> rfl
theorem fVal_eq (x : Value) (k : Value → β) : fVal x k = k x := by cases x <;> simp [fVal, fInt_eq, fBool_eq]
theorem fC0_eq (s : SV) (k : SV → β) : fC0 s k = k s := by cases s <;> simp [fC0, fVal_eq, fNat_eq]
theorem fL0_eq (l : List SV) (k : List SV → β) : fL0 l k = k l := by
  induction l generalizing k with
  | nil => rfl
  | cons x l ih => simp [fL0, fC0_eq, ih]
theorem fC1_eq (s : SV) (k : SV → β) : fC1 s k = k s := by cases s <;> simp [fC1, fC0_eq, fL0_eq]
theorem fL1_eq (l : List SV) (k : List SV → β) : fL1 l k = k l := by
  induction l generalizing k with
  | nil => rfl
  | cons x l ih => simp [fL1, fC1_eq, ih]
theorem fS_eq (s : SV) (k : SV → β) : fS s k = k s := by cases s <;> simp [fS, fC1_eq, fL1_eq]
theorem fLS_eq (l : List SV) (k : List SV → β) : fLS l k = k l := by
  induction l generalizing k with
  | nil => rfl
  | cons x l ih => simp [fLS, fS_eq, ih]
theorem fTop_eq (s : SV) (k : SV → β) : fTop s k = k s := by cases s <;> simp [fTop, fS_eq, fLS_eq]
theorem fNats_eq (l : List Nat) (k : List Nat → β) : fNats l k = k l := by
  induction l generalizing k with
  | nil => rfl
  | cons x l ih => simp [fNats, fNat_eq, ih]
theorem fSt_eq {fR : R → (R → β) → β} (h : ∀ r k, fR r k = k r) (st : St R) (k : St R → β) : fSt fR st k = k st := by
  have hc : ∀ (c : Chunk R) (k : Chunk R → β), fChunk fR c k = k c := fun c k => by cases c <;> simp [fChunk, fL1_eq, h]
  have hh : ∀ (l : List (Nat × Chunk R)) (k : List (Nat × Chunk R) → β), fHp fR l k = k l := fun l => by
    induction l with
    | nil => exact fun _ => rfl
    | cons p l ih => exact fun k => by simp [fHp, fNat_eq, hc, ih]
  obtain ⟨hp, nx, fr, wr, ak, oc⟩ := st
  simp [fSt, hh, fNat_eq, fNats_eq]
end
/-- A state and a value reckoned out, as far as it goes. -/
abbrev Tidy (R : Type) := St R → SV → (St R → SV → Res R SV) → Res R SV
/-- All numbers too. -/
def tidyF (fR : R → (R → Res R SV) → Res R SV) : Tidy R := fun st s k => fSt fR st fun st => fTop s fun s => k st s
mutual
/-- Names alone. -/
def gS {β : Type} : SV → (SV → β) → β
  | .v x, k => k (.v x)
  | .ptr n o, k => fNat n fun n => k (.ptr n o)
  | .sl n o i l, k => fNat n fun n => k (.sl n o i l)
  | .slE n, k => fNat n fun n => k (.slE n)
  | .tptr n i j, k => fNat n fun n => k (.tptr n i j)
  | .tsl n l, k => fNat n fun n => k (.tsl n l)
  | .mp n, k => fNat n fun n => k (.mp n)
  | .ifc t x, k => gS x fun x => k (.ifc t x)
  | .agg l, k => gL l fun l => k (.agg l)
  | .tup l, k => gL l fun l => k (.tup l)
  | .clo f a b, k => gL a fun a => gL b fun b => k (.clo f a b)
def gL {β : Type} : List SV → (List SV → β) → β
  | [], k => k []
  | x :: l, k => gS x fun x => gL l fun l => k (x :: l)
end
def gHp {β : Type} : List (Nat × Chunk R) → (List (Nat × Chunk R) → β) → β
  | [], k => k []
  | (n, c) :: r, k => fNat n fun n => match c with
    | .row l t => gL l fun l => gHp r fun r => k ((n, .row l t) :: r)
    | .rep x => gHp r fun r => k ((n, .rep x) :: r)
    | .emp => gHp r fun r => k ((n, .emp) :: r)
    | .tab f len t => gHp r fun r => k ((n, .tab f len t) :: r)
/-- Names and shapes alone. -/
def tidyG : Tidy R := fun st s k => match st with
  | ⟨hp, nx, fr, wr, ak, oc⟩ => gHp hp fun hp => fNat nx fun nx => fNats fr fun fr => fNats wr fun wr => gS s fun s => k ⟨hp, nx, fr, wr, ak, oc⟩ s
mutual
theorem gS_eq {β : Type} : ∀ (s : SV) (k : SV → β), gS s k = k s
  | .v _, k => by simp only [gS]
  | .ptr _ _, k => by simp only [gS, fNat_eq]
  | .sl _ _ _ _, k => by simp only [gS, fNat_eq]
  | .slE _, k => by simp only [gS, fNat_eq]
  | .tptr _ _ _, k => by simp only [gS, fNat_eq]
  | .tsl _ _, k => by simp only [gS, fNat_eq]
  | .mp _, k => by simp only [gS, fNat_eq]
  | .ifc _ x, k => by simp only [gS, gS_eq x]
  | .agg l, k => by simp only [gS, gL_eq l]
  | .tup l, k => by simp only [gS, gL_eq l]
  | .clo _ a b, k => by simp only [gS, gL_eq a, gL_eq b]
theorem gL_eq {β : Type} : ∀ (l : List SV) (k : List SV → β), gL l k = k l
  | [], k => by simp only [gL]
  | x :: l, k => by simp only [gL, gS_eq x, gL_eq l]
end
theorem gHp_eq {β : Type} : ∀ (hp : List (Nat × Chunk R)) (k : List (Nat × Chunk R) → β), gHp hp k = k hp
  | [], k => by simp only [gHp]
  | (n, c) :: r, k => by cases c <;> simp only [gHp, fNat_eq, gL_eq, gHp_eq r]
theorem tidyG_eq (st : St R) (s : SV) (k : St R → SV → Res R SV) : tidyG st s k = k st s := by
  obtain ⟨hp, nx, fr, wr, ak, oc⟩ := st
  simp only [tidyG, gHp_eq, fNat_eq, fNats_eq, gS_eq]
theorem tidyF_eq {fR : R → (R → Res R SV) → Res R SV} (h : ∀ r k, fR r k = k r) (st : St R) (s : SV) (k : St R → SV → Res R SV) : tidyF fR st s k = k st s := by
  simp only [tidyF, fSt_eq h, fTop_eq]
/-- The sweeping; what stays is reckoned out. -/
def sweepX (tidy : Option (Tidy R)) (st : St R) (s : SV) : M R SV := fun st1 => match tidy with
  | some f => f (sweepSt st s st1) s fun st2 s2 => .ok s2 st2
  | none => .ok s (sweepSt st s st1)

def stNow : M R (St R) := fun s => .ok s s

/-- Calls, and operations, that are known by themselves. -/
structure Lib (R : Type) where
  prim : FuncId → List SV → Option (M R SV)
  ext : (Operand → Option SV) → Oper → Option (M R SV)
  tidy : Option (Tidy R) := none

def callF (P : Program) (lib : Lib R) (run : Nat → Code → Env → M R (Ex × Env)) (f : FuncId) (args : List SV) : M R SV := match lib.prim f args with
  | some m => m
  | none => match P.funcs[f]? with
    | some fn => match fn.body with
      | some c => stNow.bind fun s0 => (want 160 (Nat.ble args.length fn.ntmps)).bind fun _ => (run fn.ntmps c (args.zipIdx.map fun p => (p.2, p.1))).bind fun r => match r.1 with
        | .out _ => .fail 161
        | _ => (resX P r.2 fn.results.toList).bind fun l => sweepX lib.tidy s0 (oneOf l)
      | none => .fail 163
    | none => .fail 164

def codeF (P : Program) (call : Hk R) (run : Nat → Code → Env → M R (Ex × Env)) (sz : Nat) : Code → Env → M R (Ex × Env)
  | .skip, e => .ret (.nor, e)
  | .region _ ops false, e => (seqX P call ops sz ops.toList e).bind fun e => .ret (.nor, e)
  | .region _ ops true, e => (drawX P call ops sz ops.toList [] e).bind fun r => (want 170 (ordered (masks ops.toList []) r.2)).bind fun _ => .ret (.nor, r.1)
  | .seq a b, e => (run sz a e).bind fun r => match r.1 with
    | .nor => run sz b r.2
    | x => .ret (x, r.2)
  | .cond c a b, e => (M.opt 171 (evX e c)).bind fun
    | .v (.bool t) => (askB t).bind fun
      | true => run sz a e
      | false => run sz b e
    | _ => .fail 172
  | .block id c, e => (run sz c e).bind fun r => match r.1 with
    | .out id' => match Nat.beq id' id with
      | true => .ret (.nor, r.2)
      | false => .ret (.out id', r.2)
    | x => .ret (x, r.2)
  | .loop c, e => (run sz c e).bind fun r => match r.1 with
    | .nor => run sz (.loop c) (pruneE (maskE e) r.2)
    | x => .ret (x, r.2)
  | .exit id, e => .ret (.out id, e)
  | .ret, e => .ret (.ret, e)
  | _, _ => .fail 173

def runX (P : Program) (lib : Lib R) : Nat → Nat → Code → Env → M R (Ex × Env)
  | 0, _, _, _ => .fail 180
  | n + 1, sz, c, e => codeF P ⟨callF P lib (runX P lib n), lib.ext⟩ (runX P lib n) sz c e
def callX (P : Program) (lib : Lib R) (n : Nat) (f : FuncId) (args : List SV) : M R SV := callF P lib (runX P lib n) f args
end
end Go.Proofs.Ytjediiajmnlonaa
