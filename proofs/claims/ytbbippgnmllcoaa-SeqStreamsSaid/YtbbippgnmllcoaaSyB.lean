/- The symbolic executor, second part: operations, regions, code, calls. Own work of this session. -/
import Derived.Test.YtbbippgnmllcoaaSyA
namespace Go.Sy

/-- What is asked of an integer operation. -/
def binInt (op : BinOp) (k : IntKind) (a b : E) : Option (E × SV) :=
  match op with
  | .add => some (eTrue, .int k (mk2 (.add k) a b))
  | .sub => some (eTrue, .int k (mk2 (.sub k) a b))
  | .mul => some (eTrue, .int k (mk2 (.mul k) a b))
  | .quo => some (mk2 .ne b (eInt 0), .int k (mk2 (.quo k) a b))
  | .rem => some (mk2 .ne b (eInt 0), .int k (mk2 .rem a b))
  | .and => some (eTrue, .int k (mk2 (.and k) a b))
  | .or => some (eTrue, .int k (mk2 (.or k) a b))
  | .xor => some (eTrue, .int k (mk2 (.xor k) a b))
  | .andNot => some (eTrue, .int k (mk2 (.andNot k) a b))
  | .eql => some (eTrue, .bool (mk2 .eq a b))
  | .neq => some (eTrue, .bool (mk2 .ne a b))
  | .lss => some (eTrue, .bool (mk2 .lt a b))
  | .leq => some (eTrue, .bool (mk2 .le a b))
  | .gtr => some (eTrue, .bool (mk2 .gt a b))
  | .geq => some (eTrue, .bool (mk2 .ge a b))
  | .shl | .shr => none
def binSV (P : Program) (op : BinOp) (t : TypeId) (x y : SV) : Option (E × SV) :=
  match op, x, y with
  | .shl, .int k a, .int _ b => some (mk2 .ge b (eInt 0), .int k (mk2 (.shl k) a b))
  | .shr, .int k a, .int _ b => some (mk2 .ge b (eInt 0), .int k (mk2 (.shr k) a b))
  | op, .int k a, .int k' b => if k = k' then binInt op k a b else none
  | .add, .str a, .str b => some (mk2 .le (mk2 .addZ (mk1 .len a) (mk1 .len b)) (eInt 9223372036854775807), .str (mk2 .cat a b))
  | .eql, .str a, .str b => some (eTrue, .bool (mk2 .seq a b))
  | .neq, .str a, .str b => some (eTrue, .bool (mk1 .not (mk2 .seq a b)))
  | .eql, .agg l, .agg l' => if P.eqGuardType P.depth t then none else (eqSV P 200 t (.agg l) (.agg l')).map fun e => (eTrue, .bool e)
  | .neq, .agg l, .agg l' => if P.eqGuardType P.depth t then none else (eqSV P 200 t (.agg l) (.agg l')).map fun e => (eTrue, .bool (mk1 .not e))
  | .eql, .bool a, .bool b => (eqSV P 200 t (.bool a) (.bool b)).map fun e => (eTrue, .bool e)
  | .neq, .bool a, .bool b => (eqSV P 200 t (.bool a) (.bool b)).map fun e => (eTrue, .bool (mk1 .not e))
  | .eql, .nil, y => (eqSV P 200 t .nil y).map fun e => (eTrue, .bool e)
  | .neq, .nil, y => (eqSV P 200 t .nil y).map fun e => (eTrue, .bool (mk1 .not e))
  | .eql, .ptr c o, y => (eqSV P 200 t (.ptr c o) y).map fun e => (eTrue, .bool e)
  | .neq, .ptr c o, y => (eqSV P 200 t (.ptr c o) y).map fun e => (eTrue, .bool (mk1 .not e))
  | .eql, .snil, y => (eqSV P 200 t .snil y).map fun e => (eTrue, .bool e)
  | .neq, .snil, y => (eqSV P 200 t .snil y).map fun e => (eTrue, .bool (mk1 .not e))
  | .eql, .asl n c w o l, y => (eqSV P 200 t (.asl n c w o l) y).map fun e => (eTrue, .bool e)
  | .neq, .asl n c w o l, y => (eqSV P 200 t (.asl n c w o l) y).map fun e => (eTrue, .bool (mk1 .not e))
  | .eql, .slice c o l p, y => (eqSV P 200 t (.slice c o l p) y).map fun e => (eTrue, .bool e)
  | .neq, .slice c o l p, y => (eqSV P 200 t (.slice c o l p) y).map fun e => (eTrue, .bool (mk1 .not e))
  | _, _, _ => none
def unSV (op : UnOp) (x : SV) : Option SV :=
  match op, x with
  | .neg, .int k a => some (.int k (mk1 (.neg k) a))
  | .xor, .int k a => some (.int k (mk1 (.cpl k) a))
  | .not, .bool a => some (.bool (mk1 .not a))
  | _, _ => none
def convSV (P : Program) (src dst : TypeId) (x : SV) : Option SV :=
  match P.underlying src, P.underlying dst, x with
  | some _, some (.int k), .int _ a => some (.int k (mk1 (.conv k) a))
  | some _, some .string, .str a => some (.str a)
  | _, _, _ => none
def foldMM (o : O2) : SV → List SV → Option SV
  | x, [] => some x
  | .int k a, .int _ b :: r => foldMM o (.int k (mk2 o a b)) r
  | _, _ => none
def lenSV (P : Program) (t : TypeId) (x : SV) : Option SV :=
  match P.underlying t, x with
  | some .string, .str a => some (.int .i64 (mk1 .len a))
  | some (.slice _), .slice _ _ n _ => some (.int .i64 (eInt n))
  | some (.slice _), .snil => some (.int .i64 (eInt 0))
  | some (.slice _), .asl _ _ _ _ l => some (.int .i64 (wI l))
  | some (.slice _), .rsl _ e => some (.int .i64 (mk1 .lenL e))
  | _, _ => none
/-- The bounds of a cut: what is asked, from where, to where. (The capacity is not told: none is asked beyond the length.) -/
def mxB (len : E) : Option SV → Option (E × E)
  | some (.int _ m) => some (m, mk2 .le m len)
  | none => some (len, eTrue)
  | _ => none
def hiB (len m0 g0 : E) : Option SV → Option (E × E)
  | some (.int _ h) => some (h, mkAnd g0 (mkAnd (mk2 .ge h (eInt 0)) (mk2 .le h m0)))
  | none => some (len, g0)
  | _ => none
def loB (h0 g1 : E) : Option SV → Option (E × E × E)
  | some (.int _ l) => some (mkAnd g1 (mkAnd (mk2 .ge l (eInt 0)) (mk2 .le l h0)), l, h0)
  | none => some (g1, eInt 0, h0)
  | _ => none
def cutB (len : E) (lo hi mx : Option SV) : Option (E × E × E) :=
  match mxB len mx with
  | some (m, g0) => match hiB len m g0 hi with
    | some (h, g1) => loB h g1 lo
    | none => none
  | none => none
def cutSV (x : SV) (lo hi mx : Option SV) : Option (E × SV) :=
  match x with
  | .asl nn c w off len => if mx.isSome && hi.isNone then none else match cutB len lo hi mx with
    | some (g, a, b) => some (g, .asl nn c w (mkAdd off a) (mkSub b a))
    | none => none
  | .rsl t e => if mx.isSome && hi.isNone then none else match cutB (mk1 .lenL e) lo hi mx with
    | some (g, a, b) => some (g, .rsl t (mkSubL e a b))
    | none => none
  | _ => none
/-- An index of an array of ours: what is asked, and where it lies. -/
def elemAddrSV (P : Program) (t : TypeId) (x ix : SV) : Option (E × SV) :=
  match x, ix, P.underlying t with
  | .asl _ c w off len, .int _ i, some (.slice elem) => match P.info? elem with
    | some inf => if Nat.beq inf.size w then some (mkAnd (mk2 .ge i (eInt 0)) (mk2 .lt i len), .eptr c w (mkAdd off i) 0) else none
    | none => none
  | .rsl t' e, .int _ i, some (.slice elem) => match P.info? elem with
    | some inf => if Nat.beq inf.size t'.width then some (mkAnd (mk2 .ge i (eInt 0)) (mk2 .lt i (mk1 .lenL e)), .rptr t' e i 0) else none
    | none => none
  | _, _, _ => none
def strSub (x : SV) (lo hi : Option SV) : Option (E × SV) :=
  match x with
  | .str s =>
    match (match lo with | some (.int _ a) => some a | none => some (eInt 0) | _ => none), (match hi with | some (.int _ b) => some b | none => some (mk1 .len s) | _ => none) with
    | some a, some b => some (mkIteB (mk2 .ge b (eInt 0)) (mkIteB (mk2 .le b (mk1 .len s)) (mkIteB (mk2 .ge a (eInt 0)) (mk2 .le a b) eFalse) eFalse) eFalse, .str (mk3 .sub s a b))
    | _, _ => none
  | _ => none
def pairs (s : St) (ps : Array (Nat × Operand)) : List (Nat × SV) := ps.toList.map fun p => (p.1, opd s p.2)

/-- Operations whose value hangs on their operands alone: what is asked, and the value. -/
def evPure (P : Program) (s : St) : Op → Option (E × SV)
  | .move x | .assign x => some (eTrue, opd s x)
  | .pick c a b => match opd s c with
    | .bool (.lit (.b true)) => some (eTrue, opd s a)
    | .bool (.lit (.b false)) => some (eTrue, opd s b)
    | .bool e => some (eTrue, merge e (opd s a) (opd s b))
    | _ => none
  | .build t parts => (buildSV P t (pairs s parts)).map fun v => (eTrue, v)
  | .nilCheck x => match opd s x with
    | .ptr c o => some (eTrue, .ptr c o)
    | .eptr c w i j => some (eTrue, .eptr c w i j)
    | .rptr t e i j => some (eTrue, .rptr t e i j)
    | _ => none
  | .binOp op t x y _ => binSV P op t (opd s x) (opd s y)
  | .unOp op _ x => (unSV op (opd s x)).map fun v => (eTrue, v)
  | .convert a b x => (convSV P a b (opd s x)).map fun v => (eTrue, v)
  | .fieldAddr t x f => (fieldAddrSV P t (opd s x) f).map fun v => (eTrue, v)
  | .field t x f => (fieldSV P t (opd s x) f).map fun v => (eTrue, v)
  | .index t x i => match P.underlying t, opd s x, opd s i with
    | some .string, .str e, .int _ a => some (mkIteB (mk2 .ge a (eInt 0)) (mk2 .lt a (mk1 .len e)) eFalse, .int .u8 (mk2 .byte e a))
    | _, x, i => (indexSV P t x i).map fun v => (eTrue, v)
  | .indexAddr t x i => match elemAddrSV P t (opd s x) (opd s i) with
    | some r => some r
    | none => (indexAddrSV P t (opd s x) (opd s i)).map fun v => (eTrue, v)
  | .extract x i => match opd s x with | .tup l => (l[i]?).map fun v => (eTrue, v) | _ => none
  | .makeFunc fn first captured => match fn, first.toList with
    | .func f, [] => let l := captured.toList.map (opd s); some (eTrue, .clo f l)
    | _, _ => none
  | .slice t x lo hi mx => match P.underlying t, mx with
    | some .string, none => strSub (opd s x) (lo.map (opd s)) (hi.map (opd s))
    | some (.slice elem), mx => match opd s x, P.info? elem with
      | .asl n c w o l, some i => if Nat.beq i.size w then cutSV (.asl n c w o l) (lo.map (opd s)) (hi.map (opd s)) (mx.map (opd s)) else none
      | .rsl t' e, some i => if Nat.beq i.size t'.width then cutSV (.rsl t' e) (lo.map (opd s)) (hi.map (opd s)) (mx.map (opd s)) else none
      | _, _ => none
    | _, _ => none
  | .call { callee := .builtin .max, args, .. } => match args.toList.map (opd s) with | x :: r => (foldMM .max x r).map fun v => (eTrue, v) | [] => none
  | .call { callee := .builtin .min, args, .. } => match args.toList.map (opd s) with | x :: r => (foldMM .min x r).map fun v => (eTrue, v) | [] => none
  | .call { callee := .builtin .len, args, argTypes } => match args.toList.map (opd s), argTypes[0]? with | [x], some t => (lenSV P t x).map fun v => (eTrue, v) | _, _ => none
  | _ => none

/-- A call: whom, with what. -/
def evCallee (s : St) (c : Call) : Option (FuncId × List SV) :=
  match c.callee with
  | .value f => match opd s f with
    | .fn g => some (g, c.args.toList.map (opd s))
    | .clo g l => some (g, c.args.toList.map (opd s) ++ l)
    | _ => none
  | _ => none
def noTop (l : List SV) : Bool := l.all fun | .top => false | _ => true

/-! ### Operations that only read the memory -/
def arrOf (m : List Chunk) (c : Nat) : Option (ET × E) := match m[c]? with | some (.arr t e) => some (t, e) | _ => none
def mapOf (m : List Chunk) (c : Nat) : Option E := match m[c]? with | some (.map e) => some e | _ => none
/-- Cells of an element, as a load of type t wants them. -/
def elemLoad (P : Program) (t : TypeId) (et : ET) (d : E) (j : Nat) : Option SV :=
  match isAgg P t with
  | some true => if Nat.beq j 0 && Nat.beq (P.cellsOf t) et.width && (P.info? t).isSome then some (.agg (elemCells et d)) else none
  | some false => (et.cts[j]?).map fun ct => svOf ct (cellE et d j)
  | none => none
/-- Does a slice lie within what is told? -/
def fits (off len e : E) : E := match off with
  | .lit (.i 0) => if eqE len (mk1 .lenL e) then eTrue else mk2 .le len (mk1 .lenL e)
  | off => mk2 .le (mkAdd off len) (mk1 .lenL e)
def isMapType (P : Program) (t : TypeId) : Bool :=
  match P.underlying t with
  | some (.map k v) => (match P.underlying k, P.underlying v with | some (.int .i64), some (.int .u8) => true | _, _ => false) && (match P.info? v with | some i => (match i.zero with | some (.int .u8 0) => true | _ => false) | none => false)
  | _ => false
def isBytes (P : Program) (t : TypeId) : Bool :=
  match P.underlying t with
  | some (.slice e) => (match P.underlying e with | some (.int .u8) => true | _ => false)
  | _ => false
def isStr (P : Program) (t : TypeId) : Bool := match P.underlying t with | some .string => true | _ => false
def evRead (P : Program) (s : St) : Op → Option (E × SV)
  | .load t a => match opd s a with
    | .ptr c o => (loadSV P s.mem t (.ptr c o)).map fun v => (eTrue, v)
    | .eptr c w i j => match arrOf s.mem c with
      | some (et, e) => if Nat.beq et.width w then (elemLoad P t et (mk2 .nth e i) j).map fun v => (mk2 .lt i (mk1 .lenL e), v) else none
      | none => none
    | .rptr et e i j => (elemLoad P t et (mk2 .nth e i) j).map fun v => (eTrue, v)
    | _ => none
  | .lookup t x k ok => match opd s x, opd s k with
    | .hnd c, .int .i64 ke => match mapOf s.mem c with
      | some e => if isMapType P t then some (eTrue, if ok then .tup [.int .u8 (mk2 .mget e ke), .bool (mk2 .mhas e ke)] else .int .u8 (mk2 .mget e ke)) else none
      | none => none
    | _, _ => none
  | .convert a b x => if isBytes P a && isStr P b then match opd s x with
      | .asl _ c w off len => match arrOf s.mem c with
        | some (et, e) => if ET.eqb et (.one (.int .u8)) && Nat.beq w 1 then some (fits off len e, .str (mk1 .strOf (mkSubL e off (mkAdd off len)))) else none
        | none => none
      | .snil => some (eTrue, .str (.lit (.s [])))
      | _ => none
    else none
  | .call { callee := .builtin .len, args, argTypes } => match args.toList.map (opd s), argTypes[0]? with
    | [.hnd c], some t => match mapOf s.mem c with
      | some e => if isMapType P t then some (eTrue, .int .i64 (mk1 .lenL e)) else none
      | none => none
    | _, _ => none
  | _ => none
def evVal (P : Program) (s : St) (op : Op) : Option (E × SV) := match evPure P s op with | some r => some r | none => evRead P s op

/-! ### Operations that turn the memory -/
/-- What is stored into an element. -/
def elemStore (P : Program) (t : TypeId) (et : ET) (e i : E) (j : Nat) (v : SV) : Option E :=
  match isAgg P t with
  | some true => if Nat.beq j 0 && Nat.beq (P.cellsOf t) et.width && (P.info? t).isSome then match v with
      | .agg l => match unOfs et.cts l with
        | some es => (elemOf et es).map fun d => mk3 .setL e i d
        | none => none
      | _ => none
    else none
  | some false => if Nat.beq (P.cellsOf t) 1 && (P.info? t).isSome then match et, et.cts[j]? with
      | .one _, some ct => (unOf ct v).map fun d => mk3 .setL e i d
      | .row _, some ct => (unOf ct v).map fun d => mk3 (.setAt j) e i d
      | _, none => none
    else none
  | none => none
/-- The elements that a row of cells is. -/
def elemsOf (t : ET) : Nat → List SV → Option (List E)
  | 0, _ => some []
  | n + 1, l => match unOfs t.cts (l.take t.width) with
    | some es => match elemOf t es, elemsOf t n (l.drop t.width) with
      | some d, some r => some (d :: r)
      | _, _ => none
    | none => none
/-- What a slice holds: what is asked, its elements. -/
def heldBy (m : List Chunk) (et : ET) : SV → Option (E × E)
  | .snil => some (eTrue, eNil)
  | .asl _ c w off len => match arrOf m c with
    | some (et', e) => if ET.eqb et et' && Nat.beq w et.width then some (fits off len e, mkSubL e off (mkAdd off len)) else none
    | none => none
  | .rsl et' e => if ET.eqb et et' then some (eTrue, wL e) else none
  | .str e => if ET.eqb et (.one (.int .u8)) then some (eTrue, mk1 .bytesOf e) else none
  | _ => none
def chunkOf : SV → Option Nat
  | .asl _ c _ _ _ => some c
  | _ => none
def most : E := eInt 1099511627776
def kill (m : List Chunk) : SV → List Chunk
  | .asl _ c _ _ _ => m.set c .dead
  | _ => m
def srcOk (P : Program) (t2 : TypeId) (y : SV) : Bool :=
  match P.underlying t2, y with
  | some .string, .str _ => true
  | some (.slice _), .str _ => false
  | some (.slice _), _ => true
  | _, _ => false
def zeroOk (inf : TypeInfo) : Bool := match inf.zero with | some z => Nat.beq z.cells.size inf.size | none => false
def apart (x y : SV) : Bool := match chunkOf x, chunkOf y with | some c, some c' => !Nat.beq c c' | _, _ => true
/-- Is what an append gives not nil? -/
def nnOf (x : SV) (n : E) : E := match x with | .asl nn _ _ _ _ => mkIteB nn eTrue (mk2 .gt n (eInt 0)) | _ => mk2 .gt n (eInt 0)
def isDst : SV → Bool
  | .snil | .asl .. => true
  | _ => false
def appendOk (P : Program) (inf : TypeInfo) (et : ET) (t2 : TypeId) (x y : SV) : Bool :=
  Nat.beq inf.size et.width && Nat.ble inf.bytes 200 && zeroOk inf && srcOk P t2 y && apart x y && isDst x
/-- append: what is asked, the slice, the memory. -/
def appendSV (P : Program) (m : List Chunk) (t t2 : TypeId) (x y : SV) : Option (E × SV × List Chunk) :=
  match P.underlying t with
  | some (.slice elem) => match etOf P elem, P.info? elem with
    | some et, some inf =>
      if appendOk P inf et t2 x y then
        match heldBy m et x, heldBy m et y with
        | some (g, a), some (g', b) =>
          let l := mk2 .app a b
          some (mkAnd g (mkAnd g' (mk2 .le (mk1 .lenL l) most)), .asl (nnOf x (mk1 .lenL b)) m.length et.width (eInt 0) (mk1 .lenL l), kill m x ++ [.arr et l])
        | _, _ => none
      else none
    | _, _ => none
  | _ => none

def evStoreOp (P : Program) (s : St) (t : TypeId) (a v : SV) : T (SV × List Chunk) :=
  match a with
  | .eptr c w i j => match arrOf s.mem c with
    | some (et, e) => if Nat.beq et.width w then match elemStore P t et e i j v with
        | some e' => .need (mk2 .lt i (mk1 .lenL e)) (.ret (.tup [], s.mem.set c (.arr et e')))
        | none => .fail "store: an element"
      else .fail "store: width"
    | none => .fail "store: no array"
  | x => T.opt "store" ((storeSV P s.mem t x v).map fun m => (.tup [], m))
def builtOf (P : Program) (elem : TypeId) (n size : Nat) (l : List SV) : Option (ET × List E) :=
  match etOf P elem with
  | some et => if Nat.beq et.width size then match elemsOf et n l with | some es => some (et, es) | none => none else none
  | none => none
def evBuildS (P : Program) (s : St) (t : TypeId) (n : Nat) (parts : Array (Nat × Operand)) : T (SV × List Chunk) :=
  match P.underlying t with
  | some (.slice elem) => match zeroCellsSV P elem, P.info? elem with
    | some z, some i => if Nat.beq z.length i.size && Nat.ble (n * i.size) 1000 && Nat.blt 0 i.size && Nat.blt 0 n then
        match fillSV (fun j => some (j * i.size, i.size)) ((List.replicate n z).flatten) (pairs s parts) with
        | some l => if l.all SV.cellish then
            match builtOf P elem n i.size l with
            | some (et, es) => .ret (.asl eTrue s.mem.length et.width (eInt 0) (eInt n), s.mem ++ [.arr et (mkRow es)])
            | none => .ret (.slice s.mem.length 0 n n, s.mem ++ [.row l elem])
          else .fail "buildSlice: cells"
        | none => .fail "buildSlice: parts"
      else .fail "buildSlice: size"
    | _, _ => .fail "buildSlice: zero"
  | _ => .fail "buildSlice: type"
/-- Elements that 'make' can lay: what a cell is, its zero. -/
def zeroCT (P : Program) (elem : TypeId) : Option (CT × O1) :=
  match etOf P elem, P.info? elem with
  | some (.one (.int k)), some i => match i.zero with
    | some (.int k2 0) => if k = k2 then if Nat.ble i.bytes 8 && Nat.beq i.size 1 then some (.int k, .replI) else none else none
    | _ => none
  | some (.one .bool), some i => match i.zero with
    | some (.bool false) => if Nat.ble i.bytes 8 && Nat.beq i.size 1 then some (.bool, .replB) else none
    | _ => none
  | _, _ => none
def evMakeS (P : Program) (s : St) (t : TypeId) (l c : SV) : T (SV × List Chunk) :=
  match P.underlying t, l, c with
  | some (.slice elem), .int .i64 a, .int .i64 b => if eqE a b then match zeroCT P elem with
      | some (ct, z) => .need (mkAnd (mk2 .ge a (eInt 0)) (mk2 .le a most)) (.ret (.asl eTrue s.mem.length 1 (eInt 0) (wI a), s.mem ++ [.arr (.one ct) (mk1 z a)]))
      | none => .fail "makeSlice: type of element"
    else .fail "makeSlice: capacity"
  | _, _, _ => .fail "makeSlice"
def evMapU (P : Program) (s : St) (t : TypeId) (x k v : SV) : T (SV × List Chunk) :=
  match x, k, v with
  | .hnd c, .int .i64 ke, .int .u8 ve => match mapOf s.mem c with
    | some e => if isMapType P t then .ret (.tup [], s.mem.set c (.map (mk3 .mput e ke ve))) else .fail "mapUpdate: type"
    | none => .fail "mapUpdate: no map"
  | _, _, _ => .fail "mapUpdate"
def evConvB (P : Program) (s : St) (a b : TypeId) (x : SV) : T (SV × List Chunk) :=
  match x with
  | .str e => if isBytes P b && isStr P a then
      .ret (.asl eTrue s.mem.length 1 (eInt 0) (mk1 .lenL (mk1 .bytesOf e)), s.mem ++ [.arr (.one (.int .u8)) (mk1 .bytesOf e)])
    else .fail "convert"
  | _ => .fail "convert: what"
def evAppend (P : Program) (s : St) (args : List SV) (ats : List TypeId) : T (SV × List Chunk) :=
  match args, ats with
  | [x, y], [t, t2] => match appendSV P s.mem t t2 x y with
    | some (g, v, m) => .need g (.ret (v, m))
    | none => .fail "append"
  | _, _ => .fail "append: two"
def evDelete (P : Program) (s : St) (args : List SV) (ats : List TypeId) : T (SV × List Chunk) :=
  match args, ats with
  | [.hnd c, .int .i64 ke], t :: _ => match mapOf s.mem c with
    | some e => if isMapType P t then .ret (.tup [], s.mem.set c (.map (mk2 .mdel e ke))) else .fail "delete: type"
    | none => .fail "delete: no map"
  | _, _ => .fail "delete"

section
variable (P : Program) (call : FuncId → List SV → List Chunk → T (SV × List Chunk))

/-- One operation: the value and the memory behind it. -/
def evOp (s : St) (o : Oper) : T (SV × List Chunk) :=
  match evVal P s o.op with
  | some (e, v) => .need e (.ret (v, s.mem))
  | none =>
  match o.op with
  | .store t a v => evStoreOp P s t (opd s a) (opd s v)
  | .alloc t => match zeroCellsSV P t with
    | some l => .ret (.ptr s.mem.length 0, s.mem ++ [.row l t])
    | none => .fail "alloc"
  | .box t v => match (opd s v).cells with
    | some l => if l.all SV.cellish then .ret (.ptr s.mem.length 0, s.mem ++ [.row l t]) else .fail "box"
    | none => .fail "box"
  | .buildSlice t n parts => evBuildS P s t n parts
  | .makeSlice t l c => evMakeS P s t (opd s l) (opd s c)
  | .makeMap t none => if isMapType P t then .ret (.hnd s.mem.length, s.mem ++ [.map eNil]) else .fail "makeMap"
  | .mapUpdate t x k v => evMapU P s t (opd s x) (opd s k) (opd s v)
  | .convert a b x => evConvB P s a b (opd s x)
  | .call { callee := .builtin .append, args, argTypes } => evAppend P s (args.toList.map (opd s)) argTypes.toList
  | .call { callee := .builtin .delete, args, argTypes } => evDelete P s (args.toList.map (opd s)) argTypes.toList
  | .call c => match evCallee s c with
      | some (f, args) => if noTop args then call f args s.mem else .fail "call: an argument"
      | none => .fail "call: whom"
  | _ => .fail "operation"

def put (s : St) (dst : Option Tmp) (v : SV) (m : List Chunk) : St :=
  ⟨match dst with | some d => s.fr.set d v | none => s.fr, m⟩
/-- The guard: which slot, which truth. -/
def guardOf (ops : Array Oper) (o : Oper) : Option (Option Tmp × Bool) :=
  match o.guard with
  | none => none
  | some (j, want) => some ((ops[j]?).bind (·.dst), want)
/-- Run, or pass by, as the guard has it; where the guard's truth is open, both ways, its slot told. -/
def guarded (ops : Array Oper) (s : St) (o : Oper) (run : St → T St) : T St :=
  let skip (s : St) : T St := .ret (put s o.dst (.tup []) s.mem)
  match guardOf ops o with
  | none => run s
  | some (none, _) => skip s
  | some (some g, want) => match s.fr[g]? with
    | some (.bool (.lit (.b b))) => if b == want then run s else skip s
    | some (.bool e) =>
      let s1 : St := ⟨s.fr.set g (.bool eTrue), s.mem⟩
      let s0 : St := ⟨s.fr.set g (.bool eFalse), s.mem⟩
      .ite e (if want then run s1 else skip s1) (if want then skip s0 else run s0)
    | some (.tup []) => skip s
    | _ => .fail "guard"
def evOp1 (s : St) (o : Oper) : T St := (evOp P call s o).bind fun vm => .ret (put s o.dst vm.1 vm.2)
/-- The operations in the order of the text. -/
def evOps (ops : Array Oper) : List Oper → St → T St
  | [], s => .ret s
  | o :: rest, s => (guarded ops s o fun s => evOp1 P call s o).bind (evOps ops rest)

/-! ### A region that draws its order -/
/-- How many cells a load reads. -/
def loadW (P : Program) (t : TypeId) : Nat := if isAgg P t = some true then P.cellsOf t else 1
/-- Cells that the region's loads may read, and those that its own stores hit, by one look in the order of the text, calls passed over. -/
def lookOps (ops : Array Oper) : List Oper → St → List (Nat × Nat × Nat) × List (Nat × Nat × Nat) → List (Nat × Nat × Nat) × List (Nat × Nat × Nat)
  | [], _, r => r
  | o :: rest, s, (ls, ws) =>
    match o.op with
    | .load t a => match opd s a with
      | .ptr c off => lookOps ops rest (put s o.dst ((loadSV P s.mem t (.ptr c off)).getD .top) s.mem) ((c, off, loadW P t) :: ls, ws)
      | _ => lookOps ops rest (put s o.dst .top s.mem) (ls, ws)
    | .store t a _ => match opd s a with
      | .ptr c off => lookOps ops rest s (ls, (c, off, P.cellsOf t) :: ws)
      | _ => lookOps ops rest s (ls, ws)
    | op => match evPure P s op with
      | some (_, v) => lookOps ops rest (put s o.dst v s.mem) (ls, ws)
      | none => lookOps ops rest (put s o.dst .top s.mem) (ls, ws)
def hits (ws : List (Nat × Nat × Nat)) (c off : Nat) : Bool := ws.any fun w => Nat.beq w.1 c && Nat.ble w.2.1 off && Nat.blt off (w.2.1 + w.2.2)
/-- One cell that is held through the region. -/
def definite : SV → Bool
  | .top | .unk | .agg _ | .tup _ | .clo _ _ | .asl .. | .eptr .. | .rsl .. | .rptr .. => false
  | _ => true
def heldCells (m : List Chunk) (ls ws : List (Nat × Nat × Nat)) : List (Nat × Nat × SV) :=
  ls.flatMap fun l => match rowOf m l.1 with
    | some (cs, _) => (List.range l.2.2).filterMap fun j => match cs[l.2.1 + j]? with
      | some v => if definite v && !hits ws l.1 (l.2.1 + j) then some (l.1, l.2.1 + j, v) else none
      | none => none
    | none => []
def isHeld (K : List (Nat × Nat × SV)) (c off : Nat) : Bool := K.any fun k => Nat.beq k.1 c && Nat.beq k.2.1 off
/-- Without what only says the sort. -/
def nrm : SV → SV
  | .int k (.o1 .asI e) => .int k e
  | .bool (.o1 .asB e) => .bool e
  | .str (.o1 .asS e) => .str e
  | x => x
def stillHeld (K : List (Nat × Nat × SV)) (m : List Chunk) : Bool :=
  K.all fun k => match rowOf m k.1 with | some (cs, _) => (match cs[k.2.1]? with | some v => SV.eqb (nrm v) (nrm k.2.2) | none => false) | none => false
/-- May it be taken first? Its value then. -/
def early (K : List (Nat × Nat × SV)) (s : St) (op : Op) : Option (E × SV) :=
  match op with
  | .load t a => match opd s a with
    | .ptr c off => if (List.range (loadW P t)).all (fun j => isHeld K c (off + j)) then (loadSV P s.mem t (.ptr c off)).map fun v => (eTrue, v) else none
    | _ => none
  | op => evPure P s op
/-- Any two operations: one waits for the other, or they do not touch. (Then whatever is ready is free.) -/
def clean (ops : Array Oper) : Bool :=
  (List.range ops.size).all fun i => (List.range ops.size).all fun j => Nat.beq i j || match ops[i]?, ops[j]? with
    | some oi, some oj => oj.after.any (fun e => Region.binds .any e && e.on == i) || oi.after.any (fun e => Region.binds .any e && e.on == j) || oi.apart ops oj
    | _, _ => false
def earlyAt (K : List (Nat × Nat × SV)) (ops : Array Oper) (cl : Bool) (listed : Array Bool) (s : St) (i : Nat) : Bool :=
  (match ops[i]? with
  | none => false
  | some o => match guardOf ops o with
    | none => (early P K s o.op).isSome
    | some (none, _) => true
    | some (some g, want) => match s.fr[g]? with
      | some (.bool (.lit (.b b))) => if b == want then (early P K s o.op).isSome else true
      | some (.bool _) => (early P K s o.op).isSome
      | some (.tup []) => true
      | _ => false) && (cl || Region.free .any ops listed i)
def eqbMem : List Chunk → List Chunk → Bool
  | [], [] => true
  | .row l t :: r, .row l' t' :: r' => Nat.beq t t' && SV.eqbs l l' && eqbMem r r'
  | .arr t e :: r, .arr t' e' :: r' => ET.eqb t t' && eqE e e' && eqbMem r r'
  | .map e :: r, .map e' :: r' => eqE e e' && eqbMem r r'
  | .opq k e :: r, .opq k' e' :: r' => Nat.beq k k' && eqE e e' && eqbMem r r'
  | .dead :: r, .dead :: r' => eqbMem r r'
  | _, _ => false
/-- What is asked anyhow is passed over. -/
def strip (hyp : List E) : T St → Option (T St)
  | .asrt c u => if hyp.any (eqE c) then strip hyp u else none
  | u => some u
/-- The second tree leads where the first one does. -/
def eqbT (hyp : List E) : T St → T St → Bool
  | .asrt c t, u => eqbT (c :: hyp) t u
  | .ret a, u => match strip hyp u with
    | some (.ret b) => SV.eqbs a.fr b.fr && eqbMem a.mem b.mem
    | _ => false
  | .ite c t e, u => match strip hyp u with
    | some (.ite c' t' e') => eqE c c' && eqbT hyp t t' && eqbT hyp e e'
    | _ => false
  | .fail _, _ => false
def sameAll (t : T St) : List (T St) → T St
  | [] => t
  | u :: r => if eqbT [] t u then sameAll t r else .fail "orders part"
def canonT (n : Nat) (t : T St) : T St := t.bind fun s => .ret (canon n s)
def explore (K : List (Nat × Nat × SV)) (ops : Array Oper) (cl : Bool) : Nat → Array Bool → St → T St
  | 0, listed, s => if (Region.ready .any ops listed).isEmpty then .ret s else .fail "explore"
  | n + 1, listed, s =>
    let rs := Region.ready .any ops listed
    match rs.find? (earlyAt P K ops cl listed s) with
    | some i => match ops[i]? with
      | some o => (guarded ops s o fun s => match early P K s o.op with | some (e, v) => .need e (.ret (put s o.dst v s.mem)) | none => .fail "early").bind
          (explore K ops cl n (listed.setIfInBounds i true))
      | none => .fail "explore: no such"
    | none => match rs with
      | [] => .ret s
      | i :: r =>
        let one (i : Nat) : T St := match ops[i]? with
          | some o => (guarded ops s o fun s => evOp1 P call s o).bind fun s => if stillHeld K s.mem then explore K ops cl n (listed.setIfInBounds i true) s else .fail "a held cell is written"
          | none => .fail "explore: no such"
        match r with
        | [] => one i
        | r => sameAll (canonT s.mem.length (one i)) (r.map fun j => canonT s.mem.length (one j))
mutual
/-- Told to the last: one value fits. -/
def sure : SV → Bool
  | .top | .unk | .asl .. | .rsl .. | .rptr .. => false
  | .agg l | .tup l | .clo _ l => sures l
  | _ => true
def sures : List SV → Bool
  | [] => true
  | x :: l => sure x && sures l
end
/-- No operation that turns the memory or makes an array. (What only reads is taken ahead of this: evVal.) -/
def noStore : Op → Bool
  | .store .. | .buildSlice .. | .makeSlice .. | .makeMap .. | .mapUpdate .. => false
  | .call { callee := .builtin .append, .. } | .call { callee := .builtin .delete, .. } => false
  | _ => true
def mayQuiet : Op → Bool
  | .alloc _ | .box .. => false
  | op => noStore op
/-- In the order of the text, where no operation turns the memory that is told. -/
def evQuiet (ops : Array Oper) : List Oper → St → T St
  | [], s => .ret s
  | o :: rest, s => (guarded ops s o fun s => (evOp P call s o).bind fun vm =>
      if noStore o.op && eqbMem vm.2 s.mem && sure vm.1 then .ret (put s o.dst vm.1 s.mem) else .fail "not quiet").bind (evQuiet ops rest)
def T.sound {α : Type} : T α → Bool
  | .ret _ => true | .ite _ t e => t.sound && e.sound | .asrt _ t => t.sound | .fail _ => false
def evDraw (ops : Array Oper) (s : St) : T St :=
  let q := if ops.toList.all (fun o => mayQuiet o.op) && Region.lexB .any ops then evQuiet P call ops ops.toList s else .fail "lex"
  if q.sound then q else
  if Region.noSelect ops then
    let r := lookOps P ops ops.toList s ([], [])
    explore P call (heldCells s.mem r.1 r.2) ops (clean ops) ops.size (Array.replicate ops.size false) s
  else .fail "select"
end

/-! ### Code, calls -/
def T.leaves (t : T St) : T (X × St) := t.bind fun s => .ret (.normal, s)
def oneSV (P : Program) (m : List Chunk) (fr : List SV) : ResultVar → Option SV
  | .tmp t => some (fr.getD t (.tup []))
  | .cell a t => loadSV P m t (fr.getD a (.tup []))
def resultSV (P : Program) (fn : Func) (s : St) : Option SV :=
  match fn.results.toList with
  | [r] => oneSV P s.mem s.fr r
  | rs => if (rs.map (oneSV P s.mem s.fr)).all Option.isSome then some (.tup ((rs.map (oneSV P s.mem s.fr)).filterMap id)) else none
def entryOk (P : Program) (f : FuncId) (nargs : Nat) : Option (Func × Code) :=
  match P.funcs[f]? with
  | some fn => if fn.name == "runtime.NumGoroutine" then none else match fn.body with
    | some c => if Nat.ble nargs fn.ntmps then some (fn, c) else none
    | none => none
  | none => none
def unpackRes (x : X × St) : T (SV × List Chunk) := match x.2.fr with | [v] => .ret (v, x.2.mem) | _ => .fail "unpack"
/-- Who else answers: for calls, for loops (told by their function and their path in its code). -/
structure Ext where
  call : FuncId → List SV → List Chunk → Option (T (SV × List Chunk))
  loop : FuncId → Nat → St → Option (T (X × St))
def Ext.none : Ext := ⟨fun _ _ _ => .none, fun _ _ _ => .none⟩
mutual
def evCode (P : Program) (Z : Ext) (f : FuncId) : Nat → Nat → Code → St → T (X × St)
  | 0, _, _, _ => .fail "fuel"
  | _ + 1, _, .skip, s => .ret (.normal, s)
  | _ + 1, _, .label _, s => .ret (.normal, s)
  | _ + 1, _, .ret, s => .ret (.ret, s)
  | _ + 1, _, .exit id, s => .ret (.exit id, s)
  | n + 1, p, .seq a b, s => (evCode P Z f n (2 * p) a s).bind fun x => match x.1 with | .normal => evCode P Z f n (2 * p + 1) b x.2 | e => .ret (e, x.2)
  | n + 1, p, .cond c a b, s => match opd s c with
    | .bool (.lit (.b true)) => evCode P Z f n (2 * p) a s
    | .bool (.lit (.b false)) => evCode P Z f n (2 * p + 1) b s
    | .bool e => join s.mem.length (.ite e (evCode P Z f n (2 * p) a s) (evCode P Z f n (2 * p + 1) b s))
    | _ => .fail "cond"
  | n + 1, p, .block id c, s => (evCode P Z f n (2 * p) c s).bind fun x => .ret (match x.1 with | .exit i => if Nat.beq i id then .normal else .exit i | e => e, x.2)
  | n + 1, p, .loop c, s => match Z.loop f p s with
    | some t => t
    | none => evRounds P Z f n p c s
  | n + 1, _, .region _ ops draw, s => join s.mem.length (T.leaves (if draw then evDraw P (evFun P Z n) ops s else evOps P (evFun P Z n) ops ops.toList s))
  | _ + 1, _, _, _ => .fail "code"
termination_by structural n => n
/-- A loop, round by round. -/
def evRounds (P : Program) (Z : Ext) (f : FuncId) : Nat → Nat → Code → St → T (X × St)
  | 0, _, _, _ => .fail "fuel"
  | n + 1, p, c, s => (evCode P Z f n (2 * p) c s).bind fun x => match x.1 with | .normal => evRounds P Z f n p c x.2 | e => .ret (e, x.2)
termination_by structural n => n
def evFun (P : Program) (Z : Ext) : Nat → FuncId → List SV → List Chunk → T (SV × List Chunk)
  | 0, _, _, _ => .fail "fuel"
  | n + 1, f, args, m => match Z.call f args m with
    | some t => if (entryOk P f args.length).isSome then t else .fail "entry"
    | none => evBody P Z n f args m
termination_by structural n => n
/-- A call, by the callee's text. -/
def evBody (P : Program) (Z : Ext) : Nat → FuncId → List SV → List Chunk → T (SV × List Chunk)
  | 0, _, _, _ => .fail "fuel"
  | n + 1, f, args, m =>
    match entryOk P f args.length with
    | some (fn, c) =>
      (join m.length ((evCode P Z f n 1 c ⟨args ++ List.replicate (fn.ntmps - args.length) (.tup []), m⟩).bind fun x => match x.1 with
        | .exit _ => .fail "exit"
        | _ => match resultSV P fn x.2 with
          | some v => .ret (.ret, canon m.length ⟨[v], x.2.mem⟩)
          | none => .fail "result")).bind unpackRes
    | none => .fail "entry"
termination_by structural n => n
end
end Go.Sy
