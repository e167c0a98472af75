/- The abstract machine, part N: the evaluator. No condition. -/
import Derived.Test.YtfnlfpodeoilgaaGreatDoorAmY
set_option linter.all false
noncomputable section
namespace Go.AM

/-- Operations that look into memory. -/
def aread (T : TT) (G : Globs) (env : Tr AV) (s : St) (op : Op) : Option AV :=
  (match op with
  | .load t x => fun T G env s => match opd env x with
    | none => none
    | some a => aload T G s t a
  | .lookup t x k ok => fun T G env s => match opd env x with
    | none => none
    | some a => match opd env k with
      | none => none
      | some b => alookup T s t a b ok
  | .entry x => fun T G env s => match opd env x with
    | none => none
    | some a => anEntry s a
  | .call c => fun T G env s => match c.args.toList with
    | [x] => match opd env x with
      | none => none
      | some a => match c.argTypes.toList with
        | t :: _ => match alen T t a with
          | some y => some y
          | none => alenMap T s t a
        | [] => none
    | _ => none
  | _ => fun T G env s => none : TT → Globs → Tr AV → St → Option AV) T G env s

/-- Operations that write. -/
def aloud (T : TT) (env : Tr AV) (s : St) (op : Op) : Option (AV × St) :=
  (match op with
  | .store t x y => fun T env s => match opd env x with
    | none => none
    | some a => match opd env y with
      | none => none
      | some b => match astore T s t a b with
        | none => none
        | some s' => some (.tuple [], s')
  | .mapUpdate t m k v => fun T env s => match opd env m with
    | none => none
    | some a => match opd env k with
      | none => none
      | some b => match opd env v with
        | none => none
        | some c => match amapUpdate T s t a b c with
          | none => none
          | some s' => some (.tuple [], s')
  | .insert t m k v => fun T env s => match opd env m with
    | none => none
    | some a => match opd env k with
      | none => none
      | some b => match opd env v with
        | none => none
        | some c => match amapUpdate T s t a b c with
          | none => none
          | some s' => some (.tuple [], s')
  | .mapEntry t m k => fun T env s => match opd env m with
    | none => none
    | some a => match opd env k with
      | none => none
      | some b => amapEntry T s t a b
  | .entryStore _ m k v => fun T env s => match opd env m with
    | none => none
    | some a => match opd env k with
      | none => none
      | some b => match opd env v with
        | none => none
        | some c => match aentryStore s a b c with
          | none => none
          | some s' => some (.tuple [], s')
  | .range t x => fun T env s => match opd env x with
    | none => none
    | some a => arange T s t a
  | .next x isString => fun T env s => match isString with
    | true => none
    | false => match opd env x with
      | none => none
      | some a => anext s a
  | .call c => fun T env s => match c.callee with
    | .builtin b => match opds env c.args.toList with
      | none => none
      | some as => match b, as, c.argTypes.toList with
        | .append, [d, x], [st, xt] => aappend T s st xt d x
        | .copy, [d, x], t :: _ => acopy T s t d x
        | .clear, [x], t :: _ => aclear T s t x
        | .delete, [m, k], t :: _ => adelete T s t m k
        | _, _, _ => none
    | _ => none
  | _ => fun T env s => none : TT → Tr AV → St → Option (AV × St)) T env s

inductive Cls where
  | pure | read | alloc | loud | call | defer

def clsOf (op : Op) : Cls :=
  match op with
  | .load .. | .lookup .. | .entry _ => .read
  | .alloc _ | .box .. | .buildSlice .. | .makeSlice .. | .makeMap .. => .alloc
  | .range .. | .next .. | .store .. | .mapUpdate .. | .insert .. | .mapEntry .. | .entryStore .. => .loud
  | .defer _ => .defer
  | .call c => match c.callee with
    | .builtin b => match b with
      | .len => .read
      | .append | .copy | .clear | .delete => .loud
      | _ => .pure
    | _ => .call
  | _ => .pure

abbrev FT := Nat → Option Func

structure Cx where
  n : Nat
  fn : FuncId
  round : Option Nat

structure Fr where
  env : Tr AV
  defs : List ADef

inductive AExit where
  | normal
  | exit (id : Nat)
  | goto (l : Nat)
  | ret

structure Rec where
  code : Code → Cx → Fr → St → Option (AExit × Fr × St)
  scope : Code → Code → Cx → Fr → St → Option (AExit × Fr × St)
  call : FuncId → List AV → St → Option (AV × St)
  loop : Code → Cx → Fr → St → Option (AExit × Fr × St)

def putEnv (n : Nat) (env : Tr AV) (dst : Option Tmp) (v : AV) : Option (Tr AV) :=
  match dst with
  | none => some env
  | some d => match d.blt n with
    | false => none
    | true => match env.set d v with
      | .leaf => none
      | .node l x r => some (.node l x r)

/-- What is called: a function with its arguments, or a round of a loop. -/
inductive ACall where
  | enter (f : FuncId) (args : List AV)
  | yield (id : Nat) (args : List AV)

def acallee (v : AV) (args : List AV) : Option ACall :=
  match v with
  | .func (.func f) first captured => some (.enter f (first ++ args ++ captured))
  | .yield id => some (.yield id args)
  | _ => none

def acall (env : Tr AV) (op : Op) : Option ACall :=
  match op with
  | .call c => match c.callee with
    | .value f => match opd env f with
      | none => none
      | some v => match opds env c.args.toList with
        | none => none
        | some as => acallee v as
    | _ => none
  | _ => none

def adefer (env : Tr AV) (op : Op) : Option ADef :=
  match op with
  | .defer c => match c.callee with
    | .value f => match opd env f with
      | some (.func (.func g) first captured) => match opds env c.args.toList with
        | none => none
        | some as => some (.call (.func g) captured (first ++ as))
      | _ => none
    | _ => none
  | _ => none

def setArgs (n : Nat) (env : Tr AV) : List Tmp → List AV → Option (Tr AV)
  | [], [] => some env
  | t :: ts, v :: vs => match putEnv n env (some t) v with
    | none => none
    | some e => setArgs n e ts vs
  | _, _ => none

def isReady : LoopState → Bool
  | .ready => true
  | _ => false
def isBusy : LoopState → Bool
  | .busy => true
  | _ => false

def ALoop.with (l : ALoop) (st : LoopState) (p : Option Code) : ALoop := { l with state := st, pending := p }

def jumpOf : AExit → Option Code
  | .normal => none
  | .exit id => some (.exit id)
  | .goto l => some (.goto l)
  | .ret => some .ret

def exitOf : Option Code → Option AExit
  | none => some .normal
  | some (.exit id) => some (.exit id)
  | some (.goto l) => some (.goto l)
  | some .ret => some .ret
  | _ => none

section
variable (T : TT) (G : Globs) (F : FT)

/-- A round of a loop over a function. -/
def doYield (r : Rec) (id : Nat) (args : List AV) (s : St) : Option (AV × St) :=
  match s.heap.get id with
  | some (.loop l) => match setArgs l.n l.env l.params.toList args with
    | none => none
    | some env => match r.code l.assign ⟨l.n, l.fn, some id⟩ ⟨env, []⟩ s with
      | some (.normal, f, s₁) => match s₁.heap.get id with
        | some (.loop l₁) => match isReady l₁.state with
          | false => none
          | true => match r.code l.body ⟨l.n, l.fn, some id⟩ f (s₁.put id (.loop (l₁.with .busy l₁.pending))) with
            | none => none
            | some (e, _, s₂) => match s₂.heap.get id with
              | some (.loop l₂) => match jumpOf e with
                | none => some (.bool true, s₂.put id (.loop (l₂.with .ready none)))
                | some j => some (.bool false, s₂.put id (.loop (l₂.with .done (some j))))
              | _ => none
        | _ => none
      | _ => none
  | _ => none

def doCall (r : Rec) (c : ACall) (s : St) : Option (AV × St) :=
  match c with
  | .enter f args => r.call f args s
  | .yield id args => doYield r id args s

/-- What an operation yields, with the frame's deferred calls. -/
def doOp (r : Rec) (cx : Cx) (o : Oper) (env : Tr AV) (defs : List ADef) (s : St) : Option (AV × List ADef × St) :=
  (match clsOf o.op with
  | .pure => fun T G r cx o env defs s => match apure T env o.op with
    | none => match apeq T s env o.op with
      | none => none
      | some v => some (v, defs, s)
    | some v => some (v, defs, s)
  | .read => fun T G r cx o env defs s => match aread T G env s o.op with
    | none => none
    | some v => some (v, defs, s)
  | .alloc => fun T G r cx o env defs s => match aalloc T env o.op with
    | none => none
    | some a => some (a.at_ s.ctr, defs, s.alloc a.o)
  | .loud => fun T G r cx o env defs s => match aloud T env s o.op with
    | none => none
    | some (v, s') => some (v, defs, s')
  | .call => fun T G r cx o env defs s => match acall env o.op with
    | none => none
    | some c => match doCall r c s with
      | none => none
      | some (v, s') => some (v, defs, s')
  | .defer => fun T G r cx o env defs s => match cx.round with
    | some _ => none
    | none => match adefer env o.op with
      | none => none
      | some d => some (.tuple [], d :: defs, s) : TT → Globs → Rec → Cx → Oper → Tr AV → List ADef → St → Option (AV × List ADef × St)) T G r cx o env defs s

/-- Is an operation wanted? -/
def awanted (all : List Oper) (env : Tr AV) (g : Option (Nat × Bool)) : Option Bool :=
  match g with
  | none => some true
  | some (j, want) => match nth all j with
    | none => none
    | some o => match o.dst with
      | none => none
      | some d => match env.get d with
        | some (.bool b) => some (b == want)
        | some (.tuple _) => some false
        | _ => none

def doGuarded (r : Rec) (cx : Cx) (all : List Oper) (o : Oper) (env : Tr AV) (defs : List ADef) (s : St) : Option (AV × List ADef × St) :=
  match awanted all env o.guard with
  | none => none
  | some true => doOp T G r cx o env defs s
  | some false => some (.tuple [], defs, s)

def opsRun (r : Rec) (cx : Cx) (all : List Oper) : List Oper → Tr AV → List ADef → St → Option (Tr AV × List ADef × St)
  | [], env, defs, s => some (env, defs, s)
  | o :: os, env, defs, s => match doGuarded T G r cx all o env defs s with
    | none => none
    | some (v, defs', s') => match putEnv cx.n env o.dst v with
      | none => none
      | some env' => opsRun r cx all os env' defs' s'

/-! Regions that draw their order. -/
def binds (e : Edge) : Bool :=
  match e.ground with
  | .textOnly _ => false
  | .gcOnly _ => false
  | _ => true

/-- The operations that come ahead of each, as bits. -/
def edgeMask (ms : List Nat) : List Edge → Nat
  | [] => 0
  | e :: es => match binds e with
    | false => edgeMask ms es
    | true => match nth ms e.on with
      | none => edgeMask ms es
      | some m => (2 ^ e.on ||| m) ||| edgeMask ms es

def masks : List Oper → List Nat → List Nat
  | [], ms => ms
  | o :: os, ms => masks os (ms ++ [edgeMask ms o.after.toList])

def isQuiet (op : Op) : Bool :=
  match clsOf op with
  | .pure | .read | .alloc => true
  | _ => false
def isRead (op : Op) : Bool :=
  match clsOf op with
  | .read => true
  | _ => false

/-- Pick the first quiet operation that may be made, rather one that does not look into memory; else the first loud one. -/
def pickQ (reads : Bool) (ops : List Oper) (ms : List Nat) (did : Nat) : List Nat → Option Nat
  | [] => none
  | i :: is => match nth ops i, nth ms i with
    | some o, some m => match isQuiet o.op && (reads || !isRead o.op) with
      | false => pickQ reads ops ms did is
      | true => match (m &&& did).beq m with
        | true => some i
        | false => pickQ reads ops ms did is
    | _, _ => none
def pickL (ops : List Oper) (ms : List Nat) (did : Nat) : List Nat → Option Nat
  | [] => none
  | i :: is => match nth ops i, nth ms i with
    | some _, some m => match (m &&& did).beq m with
      | true => some i
      | false => pickL ops ms did is
    | _, _ => none

def strike (i : Nat) : List Nat → List Nat
  | [] => []
  | j :: js => match j.beq i with
    | true => js
    | false => j :: strike i js

/-- One loud operation, the quiet ones that follow it, and the reads that are asked again behind them. -/
structure Phase where
  act : Option Nat
  quiet : List Nat
  rc : List Nat

def gather (ops : List Oper) (ms : List Nat) : Nat → Nat → List Nat → List Nat × Nat × List Nat
  | 0, did, todo => ([], did, todo)
  | f + 1, did, todo => match (match pickQ false ops ms did todo with
      | none => pickQ true ops ms did todo
      | some i => some i) with
    | none => ([], did, todo)
    | some i => match gather ops ms f (did ||| 2 ^ i) (strike i todo) with
      | (q, d, t) => (i :: q, d, t)

def isAllocAt (ops : List Oper) (i : Nat) : Bool :=
  match nth ops i with
  | some o => match clsOf o.op with
    | .alloc => true
    | _ => false
  | none => true
def isReadAt (ops : List Oper) (i : Nat) : Bool :=
  match nth ops i with
  | some o => isRead o.op
  | none => false

/-- Those behind which nothing is made. -/
def tailOf (ops : List Oper) : List Nat → List Nat
  | [] => []
  | q :: qs => match qs.all fun j => !isAllocAt ops j with
    | true => q :: tailOf ops qs
    | false => tailOf ops qs

def rcOf (ops : List Oper) (am d : Nat) (tail : List Nat) : List Nat :=
  (List.range ops.length).filter fun j => isReadAt ops j && d.testBit j && !am.testBit j && !tail.contains j

def maskAt (ms : List Nat) (act : Option Nat) : Nat :=
  match act with
  | none => 0
  | some a => match nth ms a with
    | none => 0
    | some m => m

def phases (ops : List Oper) (ms : List Nat) : Nat → Option Nat → Nat → List Nat → List Phase
  | 0, _, _, _ => []
  | f + 1, act, did, todo => match gather ops ms ops.length did todo with
    | (q, d, t) => ⟨act, q, rcOf ops (maskAt ms act) d (tailOf ops q)⟩ :: match pickL ops ms d t with
      | none => []
      | some a => phases ops ms f (some a) (d ||| 2 ^ a) (strike a t)

def planOf (ops : List Oper) (ms : List Nat) : List Phase := phases ops ms (ops.length + 1) none 0 (List.range ops.length)

def sameScalar : AV → AV → Bool
  | .bool a, .bool b => a == b
  | .int j a, .int k b => match keq j k with
    | true => ieq a b
    | false => false
  | .str a, .str b => leqU a.data.toList b.data.toList
  | .nilp, .nilp | .nils, .nils | .nilm, .nilm | .nilf, .nilf | .nili, .nili => true
  | .ptr a, .ptr b => match a.id.beq b.id with
    | true => match a.m.beq b.m with
      | true => a.off.beq b.off
      | false => false
    | false => false
  | .gptr g a, .gptr h b => match g.beq h with
    | true => a.beq b
    | false => false
  | .slice a n c, .slice b m d => match a.id.beq b.id with
    | true => match a.m.beq b.m with
      | true => match a.off.beq b.off with
        | true => match n.beq m with
          | true => match c, d with
            | .known x, .known y => x.beq y
            | .unk x p, .unk y q => match x.beq y with
              | true => p.beq q
              | false => false
            | _, _ => false
          | false => false
        | false => false
      | false => false
    | false => false
  | .map a, .map b => a.beq b
  | .yield a, .yield b => a.beq b
  | _, _ => false

def sameFn : Fn → Fn → Bool
  | .func a, .func b => a.beq b
  | _, _ => false
def sameL : List AV → List AV → Bool
  | [], [] => true
  | x :: xs, y :: ys => match sameScalar x y with
    | true => sameL xs ys
    | false => false
  | _, _ => false
def same1 (x y : AV) : Bool :=
  match x, y with
  | .func f a b, .func g c d => match sameFn f g with
    | true => match sameL a c with
      | true => sameL b d
      | false => false
    | false => false
  | x, y => sameScalar x y
def same1L : List AV → List AV → Bool
  | [], [] => true
  | x :: xs, y :: ys => match same1 x y with
    | true => same1L xs ys
    | false => false
  | _, _ => false
def sameAV (x y : AV) : Bool :=
  match x, y with
  | .agg a, .agg b => same1L a b
  | .tuple a, .tuple b => same1L a b
  | x, y => same1 x y

/-- The slots that an operation names. -/
def slotOf : Operand → Option Nat
  | .tmp t => some t
  | _ => none
def opSlots (ops : List Oper) (o : Oper) : List Nat :=
  o.op.operands.toList.filterMap slotOf ++
  (match o.guard with
   | some (g, _) => match nth ops g with
     | some p => p.dst.toList
     | none => []
   | none => [])

/-- Those slots alone. -/
def sub (env : Tr AV) : List Nat → Tr AV
  | [] => .leaf
  | t :: ts => match env.get t with
    | none => sub env ts
    | some x => (sub env ts).set t x

/-- What a quiet operation yields. -/
def quietOne (all : List Oper) (e : Tr AV) (s : St) (o : Oper) : Option (AV × St) :=
  match awanted all e o.guard with
  | none => none
  | some false => some (.tuple [], s)
  | some true => match clsOf o.op with
    | .pure => match apure T e o.op with
      | none => none
      | some v => some (v, s)
    | .read => match aread T G e s o.op with
      | none => none
      | some v => some (v, s)
    | .alloc => match aalloc T e o.op with
      | none => none
      | some a => some (a.at_ s.ctr, s.alloc a.o)
    | _ => none

def quietRun (n : Nat) (all : List Oper) : List Nat → Tr AV → St → Option (Tr AV × St)
  | [], env, s => some (env, s)
  | q :: qs, env, s => match nth all q with
    | none => none
    | some o => match quietOne T G all (sub env (opSlots all o)) s o with
      | none => none
      | some (v, s') => match putEnv n env o.dst v with
        | none => none
        | some env' => quietRun n all qs env' s'

/-- The reads that may still be to come read as they did. -/
def recheck (all : List Oper) (env : Tr AV) (s : St) : List Nat → Bool
  | [] => true
  | q :: qs => match nth all q with
    | none => false
    | some o => match quietOne T G all (sub env (opSlots all o)) s o with
      | none => false
      | some (v, _) => match o.dst with
        | none => recheck all env s qs
        | some d => match env.get d with
          | none => false
          | some v' => match sameAV v v' with
            | true => recheck all env s qs
            | false => false

def actRun (r : Rec) (cx : Cx) (all : List Oper) (act : Option Nat) (env : Tr AV) (defs : List ADef) (s : St) : Option (Tr AV × List ADef × St) :=
  match act with
  | none => some (env, defs, s)
  | some i => match nth all i with
    | none => none
    | some o => match doGuarded T G r cx all o (sub env (opSlots all o)) defs s with
      | none => none
      | some (v, defs', s') => match putEnv cx.n env o.dst v with
        | none => none
        | some env' => some (env', defs', s')

def drawRun (r : Rec) (cx : Cx) (all : List Oper) : List Phase → Tr AV → List ADef → St → Option (Tr AV × List ADef × St)
  | [], env, defs, s => some (env, defs, s)
  | ph :: ps, env, defs, s => match actRun T G r cx all ph.act env defs s with
    | none => none
    | some (env₁, defs₁, s₁) => match quietRun T G cx.n all ph.quiet env₁ s₁ with
      | none => none
      | some (env₂, s₂) => match recheck T G all env₂ s₂ ph.rc with
        | false => none
        | true => drawRun r cx all ps env₂ defs₁ s₂

/-! The plan is a good one. -/
def below (n : Nat) (p : Nat → Bool) : Bool := (List.range n).all p

def edgesOk (ops : List Oper) : Bool :=
  below ops.length fun i => match nth ops i with
    | none => true
    | some o => o.after.toList.all fun e => !binds e || e.on.blt i

def dstAt (ops : List Oper) (j d : Nat) : Bool :=
  match nth ops j with
  | none => false
  | some p => match p.dst with
    | none => false
    | some x => x.beq d

def slotsOk (ops : List Oper) (ms : List Nat) : Bool :=
  below ops.length fun i => match nth ops i with
    | none => true
    | some o => match nth ms i with
      | none => false
      | some m =>
        (match o.dst with
          | none => true
          | some d => below ops.length fun j => j.beq i || !dstAt ops j d) &&
        (opSlots ops o).all fun t => below ops.length fun j => !dstAt ops j t || m.testBit j || j.beq i || (match nth ms j with
          | none => false
          | some mj => mj.testBit i)

def quietsOk (ops : List Oper) (ms : List Nat) : List Nat → Nat → Option Nat
  | [], did => some did
  | q :: qs, did => match nth ops q, nth ms q with
    | some o, some m => match isQuiet o.op && !did.testBit q && (m &&& did).beq m with
      | true => quietsOk ops ms qs (did ||| 2 ^ q)
      | false => none
    | _, _ => none

def actOk (ops : List Oper) (ms : List Nat) (act : Option Nat) (did : Nat) : Option Nat :=
  match act with
  | none => some did
  | some a => match nth ops a, nth ms a with
    | some _, some m => match !did.testBit a && (m &&& did).beq m && below ops.length fun j => (did ||| 2 ^ a).testBit j || (match nth ms j with
        | some mj => mj.testBit a
        | none => false) with
      | true => some (did ||| 2 ^ a)
      | false => none
    | _, _ => none

def rcOk (ops : List Oper) (ms : List Nat) (am d : Nat) (tail rc : List Nat) : Bool :=
  (below ops.length fun j => !isReadAt ops j || !d.testBit j || am.testBit j || tail.contains j || rc.contains j) &&
  rc.all fun j => match nth ops j, nth ms j with
    | some o, some m => (opSlots ops o).all fun t => below ops.length fun p => !dstAt ops p t || m.testBit p || !d.testBit p
    | _, _ => false

def phasesOk (ops : List Oper) (ms : List Nat) : Bool → List Phase → Nat → Bool
  | _, [], did => below ops.length fun j => did.testBit j
  | first, ph :: ps, did => match first || ph.act.isSome with
    | false => false
    | true => match actOk ops ms ph.act did with
      | none => false
      | some d₁ => match quietsOk ops ms ph.quiet d₁ with
        | none => false
        | some d => match rcOk ops ms (maskAt ms ph.act) d (tailOf ops ph.quiet) ph.rc with
          | false => false
          | true => phasesOk ops ms false ps d

def planOk (ops : List Oper) (ms : List Nat) (ps : List Phase) : Bool :=
  edgesOk ops && slotsOk ops ms && phasesOk ops ms true ps 0

def drawnRun (r : Rec) (cx : Cx) (ops : List Oper) (f : Fr) (s : St) (ms : List Nat) (ps : List Phase) : Option (Tr AV × List ADef × St) :=
  match planOk ops ms ps with
  | false => none
  | true => drawRun T G r cx ops ps f.env f.defs s

def region (r : Rec) (cx : Cx) (ops : List Oper) (draw : Bool) (f : Fr) (s : St) : Option (AExit × Fr × St) :=
  match (match draw with
    | false => opsRun T G r cx ops ops f.env f.defs s
    | true => drawnRun T G r cx ops f s (masks ops []) (planOf ops (masks ops []))) with
  | none => none
  | some (env, defs, s') => some (.normal, ⟨env, defs⟩, s')

/-- Where the deferred calls of a loop's rounds are kept. -/
def rangeOpen (cx : Cx) (f : Fr) (s : St) : Option (Nat × List ADef × St) :=
  match cx.round with
  | none => some (s.ctr, ADef.collected s.ctr :: f.defs, s.alloc (.dfr (some [])))
  | some l => match s.heap.get l with
    | some (.loop l0) => some (l0.dfr, f.defs, s)
    | _ => none

def rangeF (r : Rec) (cx : Cx) (fo : Operand) (params : Array Tmp) (assign body : Code) (f : Fr) (s : St) : Option (AExit × Fr × St) :=
  match opd f.env fo with
  | none => none
  | some fv =>
    match rangeOpen cx f s with
    | none => none
    | some (d, defs, s₁) => match acallee fv [.yield s₁.ctr] with
      | some (.enter g args) => match r.call g args (s₁.alloc (.loop ⟨.ready, none, cx.fn, f.env, cx.n, params, assign, body, d⟩)) with
        | none => none
        | some (_, s₂) => match s₂.heap.get s₁.ctr with
          | some (.loop l) => match isBusy l.state with
            | true => none
            | false => match exitOf l.pending with
              | none => none
              | some e => some (e, ⟨f.env, defs⟩, s₂.put s₁.ctr (.loop (l.with .exhausted l.pending)))
          | _ => none
      | _ => none

def codeStep (r : Rec) (c : Code) (cx : Cx) (f : Fr) (s : St) : Option (AExit × Fr × St) :=
  (match c with
  | .skip => fun T G r cx f s => some (.normal, f, s)
  | .label _ => fun T G r cx f s => some (.normal, f, s)
  | .ret => fun T G r cx f s => some (.ret, f, s)
  | .exit id => fun T G r cx f s => some (.exit id, f, s)
  | .goto l => fun T G r cx f s => some (.goto l, f, s)
  | .region _ ops draw => fun T G r cx f s => region T G r cx ops.toList draw f s
  | .seq a b => fun T G r cx f s => match r.code a cx f s with
    | some (.normal, f', s') => r.code b cx f' s'
    | x => x
  | .cond c a b => fun T G r cx f s => match opd f.env c with
    | some (.bool true) => r.code a cx f s
    | some (.bool false) => r.code b cx f s
    | _ => none
  | .block id b => fun T G r cx f s => match r.code b cx f s with
    | some (.exit id', f', s') => match id'.beq id with
      | true => some (.normal, f', s')
      | false => some (.exit id', f', s')
    | x => x
  | .loop b => fun T G r cx f s => r.loop b cx f s
  | .scope b => fun T G r cx f s => r.scope b b cx f s
  | .rangeFunc fo params assign body => fun T G r cx f s => rangeF r cx fo params assign body f s
  | .refuse _ => fun T G r cx f s => none : TT → Globs → Rec → Cx → Fr → St → Option (AExit × Fr × St)) T G r cx f s

/-- A loop, at the head of a round. -/
def loopStep (r : Rec) (b : Code) (cx : Cx) (f : Fr) (s : St) : Option (AExit × Fr × St) :=
  match r.code b cx f s with
  | some (.normal, f', s') => r.loop b cx f' s'
  | x => x

/-- Code within a scope. -/
def scopeStep (r : Rec) (b c : Code) (cx : Cx) (f : Fr) (s : St) : Option (AExit × Fr × St) :=
  match r.code c cx f s with
  | some (.goto l, f', s') => match findLabel b l with
    | none => some (.goto l, f', s')
    | some rest => r.scope b rest cx f' s'
  | x => x

/-- The deferred calls of a frame that returns. -/
def unwind (r : Rec) : Nat → List ADef → St → Option St
  | 0, _, _ => none
  | k + 1, ds, s => match ds with
    | [] => some s
    | .collected id :: ds => match s.heap.get id with
      | some (.dfr (some es)) => unwind r k (es ++ ds) (s.put id (.dfr none))
      | _ => none
    | .call fn cap args :: ds => match fn with
      | .func g => match r.call g (args ++ cap) s with
        | none => none
        | some (_, s') => unwind r k ds s'
      | _ => none

def aresults (env : Tr AV) (s : St) : List ResultVar → Option (List AV)
  | [] => some []
  | v :: vs => match (match v with
      | .tmp t => env.get t
      | .cell a t => match env.get a with
        | none => none
        | some x => aload T G s t x) with
    | none => none
    | some x => match aresults env s vs with
      | none => none
      | some xs => some (x :: xs)

def retVal (l : List AV) : AV :=
  match l with
  | [v] => v
  | vs => .tuple vs

def callStep (r : Rec) (g : FuncId) (args : List AV) (s : St) : Option (AV × St) :=
  match F g with
  | none => none
  | some fn => match fn.body with
    | none => none
    | some c => match args.length.ble fn.ntmps with
      | false => none
      | true => match setArgs fn.ntmps .leaf (List.range args.length) args with
        | none => none
        | some env => match r.code c ⟨fn.ntmps, g, none⟩ ⟨env, []⟩ s with
          | none => none
          | some (e, f, s₁) => match (match e with
              | .normal => true
              | .ret => true
              | _ => false) with
            | false => none
            | true => match unwind r 1000 f.defs s₁ with
              | none => none
              | some s₂ => match aresults T G f.env s₂ fn.results.toList with
                | none => none
                | some l => some (retVal l, s₂)

def run : Nat → Rec
  | 0 => ⟨fun _ _ _ _ => none, fun _ _ _ _ _ => none, fun _ _ _ => none, fun _ _ _ _ => none⟩
  | n + 1 => ⟨fun c cx f s => codeStep T G (run n) c cx f s, fun b c cx f s => scopeStep (run n) b c cx f s, fun g args s => callStep T G F (run n) g args s, fun b cx f s => loopStep (run n) b cx f s⟩

end
end Go.AM
