/- The symbolic executor, second part: operations, regions, code, calls. Own work of this session. -/
import Derived.Test.YtgjdhokafmmhcaaSxA
namespace Go.Sx

/-- What is asked of an integer operation. -/
def binInt (op : BinOp) (k : IntKind) (a b : E) : Option (E × SV) :=
  match op with
  | .add => some (eTrue, .int k (mk2 (.add k) a b))
  | .sub => some (eTrue, .int k (mk2 (.sub k) a b))
  | .mul => some (eTrue, .int k (mk2 (.mul k) a b))
  | .quo => some (mk2 .ne b (eInt 0), .int k (mk2 (.quo k) a b))
  | .rem => some (mk2 .ne b (eInt 0), .int k (mk2 .rem a b))
  | .and => some (eTrue, .int k (mk2 (.and k) a b))
  | .or => some (eTrue, .int k (mk2 (.or k) a b))
  | .xor => some (eTrue, .int k (mk2 (.xor k) a b))
  | .andNot => some (eTrue, .int k (mk2 (.andNot k) a b))
  | .eql => some (eTrue, .bool (mk2 .eq a b))
  | .neq => some (eTrue, .bool (mk2 .ne a b))
  | .lss => some (eTrue, .bool (mk2 .lt a b))
  | .leq => some (eTrue, .bool (mk2 .le a b))
  | .gtr => some (eTrue, .bool (mk2 .gt a b))
  | .geq => some (eTrue, .bool (mk2 .ge a b))
  | .shl | .shr => none
def binSV (P : Program) (op : BinOp) (t : TypeId) (x y : SV) : Option (E × SV) :=
  match op, x, y with
  | .shl, .int k a, .int _ b => some (mk2 .ge b (eInt 0), .int k (mk2 (.shl k) a b))
  | .shr, .int k a, .int _ b => some (mk2 .ge b (eInt 0), .int k (mk2 (.shr k) a b))
  | op, .int k a, .int k' b => if k = k' then binInt op k a b else none
  | .add, .str a, .str b => some (mk2 .le (mk2 .addZ (mk1 .len a) (mk1 .len b)) (eInt 9223372036854775807), .str (mk2 .cat a b))
  | .eql, .str a, .str b => some (eTrue, .bool (mk2 .seq a b))
  | .neq, .str a, .str b => some (eTrue, .bool (mk1 .not (mk2 .seq a b)))
  | .eql, .agg l, .agg l' => if P.eqGuardType P.depth t then none else (eqSV P 200 t (.agg l) (.agg l')).map fun e => (eTrue, .bool e)
  | .neq, .agg l, .agg l' => if P.eqGuardType P.depth t then none else (eqSV P 200 t (.agg l) (.agg l')).map fun e => (eTrue, .bool (mk1 .not e))
  | .eql, .bool a, .bool b => (eqSV P 200 t (.bool a) (.bool b)).map fun e => (eTrue, .bool e)
  | .neq, .bool a, .bool b => (eqSV P 200 t (.bool a) (.bool b)).map fun e => (eTrue, .bool (mk1 .not e))
  | .eql, .nil, y => (eqSV P 200 t .nil y).map fun e => (eTrue, .bool e)
  | .neq, .nil, y => (eqSV P 200 t .nil y).map fun e => (eTrue, .bool (mk1 .not e))
  | .eql, .ptr c o, y => (eqSV P 200 t (.ptr c o) y).map fun e => (eTrue, .bool e)
  | .neq, .ptr c o, y => (eqSV P 200 t (.ptr c o) y).map fun e => (eTrue, .bool (mk1 .not e))
  | .eql, .snil, y => (eqSV P 200 t .snil y).map fun e => (eTrue, .bool e)
  | .neq, .snil, y => (eqSV P 200 t .snil y).map fun e => (eTrue, .bool (mk1 .not e))
  | .eql, .slice c o l p, y => (eqSV P 200 t (.slice c o l p) y).map fun e => (eTrue, .bool e)
  | .neq, .slice c o l p, y => (eqSV P 200 t (.slice c o l p) y).map fun e => (eTrue, .bool (mk1 .not e))
  | _, _, _ => none
def unSV (op : UnOp) (x : SV) : Option SV :=
  match op, x with
  | .neg, .int k a => some (.int k (mk1 (.neg k) a))
  | .xor, .int k a => some (.int k (mk1 (.cpl k) a))
  | .not, .bool a => some (.bool (mk1 .not a))
  | _, _ => none
def convSV (P : Program) (src dst : TypeId) (x : SV) : Option SV :=
  match P.underlying src, P.underlying dst, x with
  | some _, some (.int k), .int _ a => some (.int k (mk1 (.conv k) a))
  | some _, some .string, .str a => some (.str a)
  | _, _, _ => none
def foldMM (o : O2) : SV → List SV → Option SV
  | x, [] => some x
  | .int k a, .int _ b :: r => foldMM o (.int k (mk2 o a b)) r
  | _, _ => none
def lenSV (P : Program) (t : TypeId) (x : SV) : Option SV :=
  match P.underlying t, x with
  | some .string, .str a => some (.int .i64 (mk1 .len a))
  | some (.slice _), .slice _ _ n _ => some (.int .i64 (eInt n))
  | some (.slice _), .snil => some (.int .i64 (eInt 0))
  | _, _ => none
def strSub (x : SV) (lo hi : Option SV) : Option (E × SV) :=
  match x with
  | .str s =>
    match (match lo with | some (.int _ a) => some a | none => some (eInt 0) | _ => none), (match hi with | some (.int _ b) => some b | none => some (mk1 .len s) | _ => none) with
    | some a, some b => some (mkIteB (mk2 .ge b (eInt 0)) (mkIteB (mk2 .le b (mk1 .len s)) (mkIteB (mk2 .ge a (eInt 0)) (mk2 .le a b) eFalse) eFalse) eFalse, .str (mk3 .sub s a b))
    | _, _ => none
  | _ => none
def pairs (s : St) (ps : Array (Nat × Operand)) : List (Nat × SV) := ps.toList.map fun p => (p.1, opd s p.2)

/-- Operations whose value hangs on their operands alone: what is asked, and the value. -/
def evPure (P : Program) (s : St) : Op → Option (E × SV)
  | .move x | .assign x => some (eTrue, opd s x)
  | .pick c a b => match opd s c with
    | .bool (.lit (.b true)) => some (eTrue, opd s a)
    | .bool (.lit (.b false)) => some (eTrue, opd s b)
    | .bool e => some (eTrue, merge e (opd s a) (opd s b))
    | _ => none
  | .build t parts => (buildSV P t (pairs s parts)).map fun v => (eTrue, v)
  | .nilCheck x => match opd s x with
    | .ptr c o => some (eTrue, .ptr c o)
    | _ => none
  | .binOp op t x y _ => binSV P op t (opd s x) (opd s y)
  | .unOp op _ x => (unSV op (opd s x)).map fun v => (eTrue, v)
  | .convert a b x => (convSV P a b (opd s x)).map fun v => (eTrue, v)
  | .fieldAddr t x f => (fieldAddrSV P t (opd s x) f).map fun v => (eTrue, v)
  | .field t x f => (fieldSV P t (opd s x) f).map fun v => (eTrue, v)
  | .index t x i => match P.underlying t, opd s x, opd s i with
    | some .string, .str e, .int _ a => some (mkIteB (mk2 .ge a (eInt 0)) (mk2 .lt a (mk1 .len e)) eFalse, .int .u8 (mk2 .byte e a))
    | _, x, i => (indexSV P t x i).map fun v => (eTrue, v)
  | .indexAddr t x i => (indexAddrSV P t (opd s x) (opd s i)).map fun v => (eTrue, v)
  | .extract x i => match opd s x with | .tup l => (l[i]?).map fun v => (eTrue, v) | _ => none
  | .makeFunc fn first captured => match fn, first.toList with
    | .func f, [] => let l := captured.toList.map (opd s); some (eTrue, .clo f l)
    | _, _ => none
  | .slice t x lo hi mx => match P.underlying t, mx with
    | some .string, none => strSub (opd s x) (lo.map (opd s)) (hi.map (opd s))
    | _, _ => none
  | .call { callee := .builtin .max, args, .. } => match args.toList.map (opd s) with | x :: r => (foldMM .max x r).map fun v => (eTrue, v) | [] => none
  | .call { callee := .builtin .min, args, .. } => match args.toList.map (opd s) with | x :: r => (foldMM .min x r).map fun v => (eTrue, v) | [] => none
  | .call { callee := .builtin .len, args, argTypes } => match args.toList.map (opd s), argTypes[0]? with | [x], some t => (lenSV P t x).map fun v => (eTrue, v) | _, _ => none
  | _ => none

/-- A call: whom, with what. -/
def evCallee (s : St) (c : Call) : Option (FuncId × List SV) :=
  match c.callee with
  | .value f => match opd s f with
    | .fn g => some (g, c.args.toList.map (opd s))
    | .clo g l => some (g, c.args.toList.map (opd s) ++ l)
    | _ => none
  | _ => none
def noTop (l : List SV) : Bool := l.all fun | .top => false | _ => true

section
variable (P : Program) (call : FuncId → List SV → List Chunk → T (SV × List Chunk))

/-- One operation: the value and the memory behind it. -/
def evOp (s : St) (o : Oper) : T (SV × List Chunk) :=
  match o.op with
  | .load t a => T.opt "load" ((loadSV P s.mem t (opd s a)).map fun v => (v, s.mem))
  | .store t a v => T.opt "store" ((storeSV P s.mem t (opd s a) (opd s v)).map fun m => (.tup [], m))
  | .alloc t => match zeroCellsSV P t with
    | some l => .ret (.ptr s.mem.length 0, s.mem ++ [.row l t])
    | none => .fail "alloc"
  | .box t v => match (opd s v).cells with
    | some l => if l.all SV.cellish then .ret (.ptr s.mem.length 0, s.mem ++ [.row l t]) else .fail "box"
    | none => .fail "box"
  | .buildSlice t n parts => match P.underlying t with
    | some (.slice elem) => match zeroCellsSV P elem, P.info? elem with
      | some z, some i => if Nat.beq z.length i.size && Nat.ble (n * i.size) 1000 && Nat.blt 0 i.size && Nat.blt 0 n then
          match fillSV (fun j => some (j * i.size, i.size)) ((List.replicate n z).flatten) (pairs s parts) with
          | some l => if l.all SV.cellish then .ret (.slice s.mem.length 0 n n, s.mem ++ [.row l elem]) else .fail "buildSlice: cells"
          | none => .fail "buildSlice: parts"
        else .fail "buildSlice: size"
      | _, _ => .fail "buildSlice: zero"
    | _ => .fail "buildSlice: type"
  | .call c => match evPure P s (.call c) with
    | some (e, v) => .need e (.ret (v, s.mem))
    | none => match evCallee s c with
      | some (f, args) => if noTop args then call f args s.mem else .fail "call: an argument"
      | none => .fail "call: whom"
  | op => match evPure P s op with
    | some (e, v) => .need e (.ret (v, s.mem))
    | none => .fail "operation"

def put (s : St) (dst : Option Tmp) (v : SV) (m : List Chunk) : St :=
  ⟨match dst with | some d => s.fr.set d v | none => s.fr, m⟩
/-- The guard: which slot, which truth. -/
def guardOf (ops : Array Oper) (o : Oper) : Option (Option Tmp × Bool) :=
  match o.guard with
  | none => none
  | some (j, want) => some ((ops[j]?).bind (·.dst), want)
/-- Run, or pass by, as the guard has it; where the guard's truth is open, both ways, its slot told. -/
def guarded (ops : Array Oper) (s : St) (o : Oper) (run : St → T St) : T St :=
  let skip (s : St) : T St := .ret (put s o.dst (.tup []) s.mem)
  match guardOf ops o with
  | none => run s
  | some (none, _) => skip s
  | some (some g, want) => match s.fr[g]? with
    | some (.bool (.lit (.b b))) => if b == want then run s else skip s
    | some (.bool e) =>
      let s1 : St := ⟨s.fr.set g (.bool eTrue), s.mem⟩
      let s0 : St := ⟨s.fr.set g (.bool eFalse), s.mem⟩
      .ite e (if want then run s1 else skip s1) (if want then skip s0 else run s0)
    | some (.tup []) => skip s
    | _ => .fail "guard"
def evOp1 (s : St) (o : Oper) : T St := (evOp P call s o).bind fun vm => .ret (put s o.dst vm.1 vm.2)
/-- The operations in the order of the text. -/
def evOps (ops : Array Oper) : List Oper → St → T St
  | [], s => .ret s
  | o :: rest, s => (guarded ops s o fun s => evOp1 P call s o).bind (evOps ops rest)

/-! ### A region that draws its order -/
/-- How many cells a load reads. -/
def loadW (P : Program) (t : TypeId) : Nat := if isAgg P t = some true then P.cellsOf t else 1
/-- Cells that the region's loads may read, and those that its own stores hit, by one look in the order of the text, calls passed over. -/
def lookOps (ops : Array Oper) : List Oper → St → List (Nat × Nat × Nat) × List (Nat × Nat × Nat) → List (Nat × Nat × Nat) × List (Nat × Nat × Nat)
  | [], _, r => r
  | o :: rest, s, (ls, ws) =>
    match o.op with
    | .load t a => match opd s a with
      | .ptr c off => lookOps ops rest (put s o.dst ((loadSV P s.mem t (.ptr c off)).getD .top) s.mem) ((c, off, loadW P t) :: ls, ws)
      | _ => lookOps ops rest (put s o.dst .top s.mem) (ls, ws)
    | .store t a _ => match opd s a with
      | .ptr c off => lookOps ops rest s (ls, (c, off, P.cellsOf t) :: ws)
      | _ => lookOps ops rest s (ls, ws)
    | op => match evPure P s op with
      | some (_, v) => lookOps ops rest (put s o.dst v s.mem) (ls, ws)
      | none => lookOps ops rest (put s o.dst .top s.mem) (ls, ws)
def hits (ws : List (Nat × Nat × Nat)) (c off : Nat) : Bool := ws.any fun w => Nat.beq w.1 c && Nat.ble w.2.1 off && Nat.blt off (w.2.1 + w.2.2)
/-- One cell that is held through the region. -/
def definite : SV → Bool
  | .top | .unk | .agg _ | .tup _ | .clo _ _ => false
  | _ => true
def heldCells (m : List Chunk) (ls ws : List (Nat × Nat × Nat)) : List (Nat × Nat × SV) :=
  ls.flatMap fun l => match rowOf m l.1 with
    | some (cs, _) => (List.range l.2.2).filterMap fun j => match cs[l.2.1 + j]? with
      | some v => if definite v && !hits ws l.1 (l.2.1 + j) then some (l.1, l.2.1 + j, v) else none
      | none => none
    | none => []
def isHeld (K : List (Nat × Nat × SV)) (c off : Nat) : Bool := K.any fun k => Nat.beq k.1 c && Nat.beq k.2.1 off
def stillHeld (K : List (Nat × Nat × SV)) (m : List Chunk) : Bool :=
  K.all fun k => match rowOf m k.1 with | some (cs, _) => (match cs[k.2.1]? with | some v => SV.eqb v k.2.2 | none => false) | none => false
/-- May it be taken first? Its value then. -/
def early (K : List (Nat × Nat × SV)) (s : St) (op : Op) : Option (E × SV) :=
  match op with
  | .load t a => match opd s a with
    | .ptr c off => if (List.range (loadW P t)).all (fun j => isHeld K c (off + j)) then (loadSV P s.mem t (.ptr c off)).map fun v => (eTrue, v) else none
    | _ => none
  | op => evPure P s op
def earlyAt (K : List (Nat × Nat × SV)) (ops : Array Oper) (listed : Array Bool) (s : St) (i : Nat) : Bool :=
  Region.free .any ops listed i &&
  match ops[i]? with
  | none => false
  | some o => match guardOf ops o with
    | none => (early P K s o.op).isSome
    | some (none, _) => true
    | some (some g, want) => match s.fr[g]? with
      | some (.bool (.lit (.b b))) => if b == want then (early P K s o.op).isSome else true
      | some (.bool _) => (early P K s o.op).isSome
      | some (.tup []) => true
      | _ => false
def eqbMem : List Chunk → List Chunk → Bool
  | [], [] => true
  | .row l t :: r, .row l' t' :: r' => Nat.beq t t' && SV.eqbs l l' && eqbMem r r'
  | .opq k e :: r, .opq k' e' :: r' => Nat.beq k k' && eqE e e' && eqbMem r r'
  | .dead :: r, .dead :: r' => eqbMem r r'
  | _, _ => false
def eqbT : T St → T St → Bool
  | .ret a, .ret b => SV.eqbs a.fr b.fr && eqbMem a.mem b.mem
  | .ite c t e, .ite c' t' e' => eqE c c' && eqbT t t' && eqbT e e'
  | .asrt c t, .asrt c' t' => eqE c c' && eqbT t t'
  | _, _ => false
def sameAll (t : T St) : List (T St) → T St
  | [] => t
  | u :: r => if eqbT t u then sameAll t r else .fail "orders part"
def explore (K : List (Nat × Nat × SV)) (ops : Array Oper) : Nat → Array Bool → St → T St
  | 0, listed, s => if (Region.ready .any ops listed).isEmpty then .ret s else .fail "explore"
  | n + 1, listed, s =>
    let rs := Region.ready .any ops listed
    match rs.find? (earlyAt P K ops listed s) with
    | some i => match ops[i]? with
      | some o => (guarded ops s o fun s => match early P K s o.op with | some (e, v) => .need e (.ret (put s o.dst v s.mem)) | none => .fail "early").bind
          (explore K ops n (listed.setIfInBounds i true))
      | none => .fail "explore: no such"
    | none => match rs with
      | [] => .ret s
      | i :: r =>
        let one (i : Nat) : T St := match ops[i]? with
          | some o => (guarded ops s o fun s => evOp1 P call s o).bind fun s => if stillHeld K s.mem then explore K ops n (listed.setIfInBounds i true) s else .fail "a held cell is written"
          | none => .fail "explore: no such"
        sameAll (one i) (r.map one)
mutual
/-- Told to the last: one value fits. -/
def sure : SV → Bool
  | .top | .unk => false
  | .agg l | .tup l | .clo _ l => sures l
  | _ => true
def sures : List SV → Bool
  | [] => true
  | x :: l => sure x && sures l
end
def noStore : Op → Bool
  | .store .. => false
  | _ => true
/-- In the order of the text, where no operation turns the memory that is told. -/
def evQuiet (ops : Array Oper) : List Oper → St → T St
  | [], s => .ret s
  | o :: rest, s => (guarded ops s o fun s => (evOp P call s o).bind fun vm =>
      if noStore o.op && eqbMem vm.2 s.mem && sure vm.1 then .ret (put s o.dst vm.1 s.mem) else .fail "not quiet").bind (evQuiet ops rest)
def T.sound {α : Type} : T α → Bool
  | .ret _ => true | .ite _ t e => t.sound && e.sound | .asrt _ t => t.sound | .fail _ => false
def evDraw (ops : Array Oper) (s : St) : T St :=
  let q := if Region.lexB .any ops then evQuiet P call ops ops.toList s else .fail "lex"
  if q.sound then q else
  if Region.noSelect ops then
    let r := lookOps P ops ops.toList s ([], [])
    explore P call (heldCells s.mem r.1 r.2) ops ops.size (Array.replicate ops.size false) s
  else .fail "select"
end

/-! ### Code, calls -/
def T.leaves (t : T St) : T (X × St) := t.bind fun s => .ret (.normal, s)
def oneSV (P : Program) (m : List Chunk) (fr : List SV) : ResultVar → Option SV
  | .tmp t => some (fr.getD t (.tup []))
  | .cell a t => loadSV P m t (fr.getD a (.tup []))
def resultSV (P : Program) (fn : Func) (s : St) : Option SV :=
  match fn.results.toList with
  | [r] => oneSV P s.mem s.fr r
  | rs => if (rs.map (oneSV P s.mem s.fr)).all Option.isSome then some (.tup ((rs.map (oneSV P s.mem s.fr)).filterMap id)) else none
/-- Behind a call: the chunks of the callee's own go, where nobody speaks of them. -/
def cutRes (n : Nat) (v : SV) (m : List Chunk) : SV × List Chunk :=
  if SV.under n v && memUnder n m then (v, m.take n) else (v, m)
def entryOk (P : Program) (f : FuncId) (nargs : Nat) : Option (Func × Code) :=
  match P.funcs[f]? with
  | some fn => if fn.name == "runtime.NumGoroutine" then none else match fn.body with
    | some c => if Nat.ble nargs fn.ntmps then some (fn, c) else none
    | none => none
  | none => none
def packRes (r : SV × List Chunk) : X × St := (.ret, ⟨[r.1], r.2⟩)
def unpackRes (x : X × St) : T (SV × List Chunk) := match x.2.fr with | [v] => .ret (v, x.2.mem) | _ => .fail "unpack"
mutual
def evCode (P : Program) : Nat → Code → St → T (X × St)
  | 0, _, _ => .fail "fuel"
  | _ + 1, .skip, s => .ret (.normal, s)
  | _ + 1, .label _, s => .ret (.normal, s)
  | _ + 1, .ret, s => .ret (.ret, s)
  | _ + 1, .exit id, s => .ret (.exit id, s)
  | n + 1, .seq a b, s => (evCode P n a s).bind fun x => match x.1 with | .normal => evCode P n b x.2 | e => .ret (e, x.2)
  | n + 1, .cond c a b, s => match opd s c with
    | .bool (.lit (.b true)) => evCode P n a s
    | .bool (.lit (.b false)) => evCode P n b s
    | .bool e => join s.mem.length (.ite e (evCode P n a s) (evCode P n b s))
    | _ => .fail "cond"
  | n + 1, .block id c, s => (evCode P n c s).bind fun x => .ret (match x.1 with | .exit i => if Nat.beq i id then .normal else .exit i | e => e, x.2)
  | n + 1, .loop c, s => (evCode P n c s).bind fun x => match x.1 with | .normal => evCode P n (.loop c) x.2 | e => .ret (e, x.2)
  | n + 1, .region _ ops draw, s => join s.mem.length (T.leaves (if draw then evDraw P (evFun P n) ops s else evOps P (evFun P n) ops ops.toList s))
  | _ + 1, _, _ => .fail "code"
def evFun (P : Program) : Nat → FuncId → List SV → List Chunk → T (SV × List Chunk)
  | 0, _, _, _ => .fail "fuel"
  | n + 1, f, args, m =>
    match entryOk P f args.length with
    | some (fn, c) =>
      (join m.length ((evCode P n c ⟨args ++ List.replicate (fn.ntmps - args.length) (.tup []), m⟩).bind fun x => match x.1 with
        | .exit _ => .fail "exit"
        | _ => match resultSV P fn x.2 with
          | some v => .ret (packRes (cutRes m.length v x.2.mem))
          | none => .fail "result")).bind unpackRes
    | none => .fail "entry"
end
end Go.Sx
