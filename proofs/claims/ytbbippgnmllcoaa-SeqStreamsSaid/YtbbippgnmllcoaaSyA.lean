/- The symbolic executor: its data and the evaluator. Nothing here speaks of one program. Own work of this session. -/
import Derived.WalkKit
import Derived.KernelRfl
import Derived.OrdersHeld
import Derived.Deep.RegionHeld3
namespace Go.Sy

/-! ### What a symbolic number, truth, text, list stands for -/
inductive D where
  | i (n : Int) | b (v : Bool) | s (v : List UInt8) | ls (v : List D)
  deriving Inhabited
mutual
def D.eqb : D → D → Bool
  | .i n, .i m => decide (n = m)
  | .b n, .b m => n == m
  | .s n, .s m => decide (n = m)
  | .ls l, .ls l' => D.eqbs l l'
  | _, _ => false
def D.eqbs : List D → List D → Bool
  | [], [] => true
  | x :: l, y :: l' => D.eqb x y && D.eqbs l l'
  | _, _ => false
end
mutual
theorem D.eqb_eq : ∀ x y : D, D.eqb x y = true → x = y
  | .i a, y, h => by cases y <;> simp [D.eqb] at h ⊢; exact h
  | .b a, y, h => by cases y <;> simp [D.eqb] at h ⊢; exact h
  | .s a, y, h => by cases y <;> simp [D.eqb] at h ⊢; exact h
  | .ls l, y, h => by cases y <;> simp [D.eqb] at h ⊢; exact D.eqbs_eq l _ h
theorem D.eqbs_eq : ∀ x y : List D, D.eqbs x y = true → x = y
  | [], y, h => by cases y <;> simp [D.eqbs] at h ⊢
  | x :: l, y, h => by
    cases y with
    | nil => simp [D.eqbs] at h
    | cons z l' =>
      simp only [D.eqbs, Bool.and_eq_true] at h
      rw [D.eqb_eq x z h.1, D.eqbs_eq l l' h.2]
end
def D.toI : D → Int | .i n => n | _ => 0
theorem toI_i (n : Int) : (D.i n).toI = n := rfl
def D.toB : D → Bool | .b x => x | _ => false
def D.toS : D → List UInt8 | .s v => v | _ => []
theorem toB_b (x : Bool) : (D.b x).toB = x := rfl
theorem toS_s (x : List UInt8) : (D.s x).toS = x := rfl
def D.toL : D → List D | .ls v => v | _ => []
theorem toL_ls (x : List D) : (D.ls x).toL = x := rfl
/-! Maps: entries are rows of two, in the order in which they came. -/
def dkey (d : D) : Int := (d.toL.getD 0 (.i 0)).toI
def dval (d : D) : Int := (d.toL.getD 1 (.i 0)).toI
def mfind (k : Int) : List D → Option Int
  | [] => none
  | e :: r => if dkey e = k then some (dval e) else mfind k r
def mput (k v : Int) : List D → List D
  | [] => [.ls [.i k, .i v]]
  | e :: r => if dkey e = k then .ls [.i k, .i v] :: r else e :: mput k v r
def mdel (k : Int) : List D → List D
  | [] => []
  | e :: r => if dkey e = k then r else e :: mdel k r

inductive O1 where
  | not | neg (k : IntKind) | conv (k : IntKind) | len | cpl (k : IntKind)
  | asI | asB | asS | asL | lenL | at (j : Nat) | strOf | bytesOf | replI | replB
  deriving DecidableEq, Inhabited
inductive O2 where
  | add (k : IntKind) | sub (k : IntKind) | mul (k : IntKind) | quo (k : IntKind) | rem
  | and (k : IntKind) | or (k : IntKind) | xor (k : IntKind) | andNot (k : IntKind) | shl (k : IntKind) | shr (k : IntKind)
  | eq | ne | lt | le | gt | ge | max | min | addZ | subZ | beq | cat | seq | byte
  | nth | cons | app | mhas | mget | mdel
  deriving DecidableEq, Inhabited
inductive O3 where
  | ite | iteI | iteB | iteS | iteL | sub | subL | setL | setAt (j : Nat) | mput
  deriving DecidableEq, Inhabited

def bits (k : IntKind) (f : BitVec k.bits → BitVec k.bits → BitVec k.bits) (x y : Int) : Int :=
  k.wrap (f (BitVec.ofInt k.bits x) (BitVec.ofInt k.bits y)).toNat
def strOfL (l : List D) : List UInt8 := l.map fun d => UInt8.ofNat d.toI.toNat
def bytesOfS (l : List UInt8) : List D := l.map fun b => .i (b.toNat : Int)

def O1.den : O1 → D → D
  | .not, x => .b (!x.toB)
  | .neg k, x => .i (k.wrap (0 - x.toI))
  | .conv k, x => .i (k.wrap x.toI)
  | .len, x => .i (x.toS.length : Int)
  | .cpl k, x => .i (bits k (fun a b => a ^^^ b) (if k.signed then -1 else k.max) x.toI)
  | .asI, x => .i x.toI
  | .asB, x => .b x.toB
  | .asS, x => .s x.toS
  | .asL, x => .ls x.toL
  | .lenL, x => .i (x.toL.length : Int)
  | .at j, x => x.toL.getD j (.i 0)
  | .strOf, x => .s (strOfL x.toL)
  | .bytesOf, x => .ls (bytesOfS x.toS)
  | .replI, x => .ls (List.replicate x.toI.toNat (.i 0))
  | .replB, x => .ls (List.replicate x.toI.toNat (.b false))
def O2.den : O2 → D → D → D
  | .add k, x, y => .i (k.wrap (x.toI + y.toI))
  | .sub k, x, y => .i (k.wrap (x.toI - y.toI))
  | .mul k, x, y => .i (k.wrap (x.toI * y.toI))
  | .quo k, x, y => .i (k.wrap (x.toI.tdiv y.toI))
  | .rem, x, y => .i (x.toI.tmod y.toI)
  | .and k, x, y => .i (bits k (fun a b => a &&& b) x.toI y.toI)
  | .or k, x, y => .i (bits k (fun a b => a ||| b) x.toI y.toI)
  | .xor k, x, y => .i (bits k (fun a b => a ^^^ b) x.toI y.toI)
  | .andNot k, x, y => .i (bits k (fun a b => a &&& ~~~b) x.toI y.toI)
  | .shl k, x, y => .i (k.wrap (x.toI * 2 ^ (Min.min y.toI.toNat k.bits)))
  | .shr k, x, y => .i (x.toI.fdiv (2 ^ (Min.min y.toI.toNat k.bits)))
  | .eq, x, y => .b (x.toI == y.toI)
  | .ne, x, y => .b (x.toI != y.toI)
  | .lt, x, y => .b (decide (x.toI < y.toI))
  | .le, x, y => .b (decide (x.toI ≤ y.toI))
  | .gt, x, y => .b (decide (x.toI > y.toI))
  | .ge, x, y => .b (decide (x.toI ≥ y.toI))
  | .max, x, y => .i (if y.toI > x.toI then y.toI else x.toI)
  | .min, x, y => .i (if y.toI < x.toI then y.toI else x.toI)
  | .addZ, x, y => .i (x.toI + y.toI)
  | .subZ, x, y => .i (x.toI - y.toI)
  | .beq, x, y => .b (x.toB == y.toB)
  | .cat, x, y => .s (x.toS ++ y.toS)
  | .seq, x, y => .b (x.toS == y.toS)
  | .byte, x, y => .i ((x.toS.getD y.toI.toNat 0).toNat : Int)
  | .nth, x, y => x.toL.getD y.toI.toNat (.i 0)
  | .cons, x, y => .ls (x :: y.toL)
  | .app, x, y => .ls (x.toL ++ y.toL)
  | .mhas, x, y => .b (mfind y.toI x.toL).isSome
  | .mget, x, y => .i ((mfind y.toI x.toL).getD 0)
  | .mdel, x, y => .ls (Sy.mdel y.toI x.toL)
def O3.den : O3 → D → D → D → D
  | .ite, x, y, z => if x.toB then y else z
  | .iteI, x, y, z => .i (if x.toB then y.toI else z.toI)
  | .iteB, x, y, z => .b (if x.toB then y.toB else z.toB)
  | .iteS, x, y, z => .s (if x.toB then y.toS else z.toS)
  | .iteL, x, y, z => .ls (if x.toB then y.toL else z.toL)
  | .sub, x, y, z => .s ((x.toS.drop y.toI.toNat).take (z.toI.toNat - y.toI.toNat))
  | .subL, x, y, z => .ls ((x.toL.drop y.toI.toNat).take (z.toI.toNat - y.toI.toNat))
  | .setL, x, y, z => .ls (x.toL.set y.toI.toNat z)
  | .setAt j, x, y, z => .ls (x.toL.set y.toI.toNat (.ls ((x.toL.getD y.toI.toNat (.i 0)).toL.set j z)))
  | .mput, x, y, z => .ls (Sy.mput y.toI z.toI x.toL)

inductive E where
  | lit (d : D) | var (n : Nat) | o1 (o : O1) (a : E) | o2 (o : O2) (a b : E) | o3 (o : O3) (a b c : E)
  | fn (k : Nat) (a : E)                    -- a function that the user of the executor names
  deriving Inhabited
/-- What the symbols stand for: the variables, the named functions; R: the blocks that are only read. -/
structure Env where
  v : Nat → D
  f : Nat → D → D
  R : Nat → Option (List Value)
def E.den (η : Env) : E → D
  | .lit d => d
  | .var n => η.v n
  | .o1 o a => o.den (a.den η)
  | .o2 o a b => o.den (a.den η) (b.den η)
  | .o3 o a b c => o.den (a.den η) (b.den η) (c.den η)
  | .fn k a => η.f k (a.den η)
def E.eqb : E → E → Bool
  | .lit d, .lit d' => D.eqb d d'
  | .var n, .var n' => Nat.beq n n'
  | .o1 o a, .o1 o' a' => decide (o = o') && E.eqb a a'
  | .o2 o a b, .o2 o' a' b' => decide (o = o') && E.eqb a a' && E.eqb b b'
  | .o3 o a b c, .o3 o' a' b' c' => decide (o = o') && E.eqb a a' && E.eqb b b' && E.eqb c c'
  | .fn k a, .fn k' a' => Nat.beq k k' && E.eqb a a'
  | _, _ => false
theorem E.eqb_eq : ∀ x y : E, E.eqb x y = true → x = y
  | .lit d, y, h => by cases y <;> simp [E.eqb] at h ⊢; exact D.eqb_eq _ _ h
  | .var n, y, h => by cases y <;> simp [E.eqb] at h ⊢; exact h
  | .o1 o a, y, h => by
    cases y <;> simp [E.eqb] at h ⊢
    exact ⟨h.1, E.eqb_eq _ _ h.2⟩
  | .o2 o a b, y, h => by
    cases y <;> simp [E.eqb] at h ⊢
    exact ⟨h.1.1, E.eqb_eq _ _ h.1.2, E.eqb_eq _ _ h.2⟩
  | .o3 o a b c, y, h => by
    cases y <;> simp [E.eqb] at h ⊢
    exact ⟨h.1.1.1, E.eqb_eq _ _ h.1.1.2, E.eqb_eq _ _ h.1.2, E.eqb_eq _ _ h.2⟩
  | .fn k a, y, h => by
    cases y <;> simp [E.eqb] at h ⊢
    exact ⟨h.1, E.eqb_eq _ _ h.2⟩
/-- Which sort a term is of, as its head tells. -/
inductive Srt where
  | i | b | s | l | d
  deriving DecidableEq, Inhabited
def O1.srt : O1 → Srt
  | .not => .b | .neg _ | .conv _ | .len | .cpl _ => .i
  | .asI => .i | .asB => .b | .asS => .s | .asL => .l | .lenL => .i | .at _ => .d | .strOf => .s | .bytesOf | .replI | .replB => .l
def O2.srt : O2 → Srt
  | .eq | .ne | .lt | .le | .gt | .ge | .beq | .seq | .mhas => .b
  | .cat => .s | .nth => .d | .cons | .app | .mdel => .l
  | _ => .i
def O3.srt : O3 → Srt
  | .ite => .d | .iteI => .i | .iteB => .b | .iteS => .s | .iteL => .l | .sub => .s | .subL | .setL | .setAt _ | .mput => .l
def E.srt : E → Srt
  | .lit (.i _) => .i | .lit (.b _) => .b | .lit (.s _) => .s | .lit (.ls _) => .l
  | .var _ | .fn _ _ => .d
  | .o1 o _ => o.srt | .o2 o _ _ => o.srt | .o3 o _ _ _ => o.srt

/-- How long a list is, where its build tells. -/
def spine : E → Option Nat
  | .lit (.ls l) => some l.length
  | .o2 .cons _ r => match spine r with | some n => some (n + 1) | none => none
  | .o2 .app a b => match spine a, spine b with | some n, some m => some (n + m) | _, _ => none
  | .o3 .setL a _ _ => spine a
  | _ => none
/-- An element of a list, where its build tells. -/
def nthE : E → Nat → Option E
  | .lit (.ls l), i => match l[i]? with | some d => some (.lit d) | none => none
  | .o2 .cons a _, 0 => some a
  | .o2 .cons _ r, i + 1 => nthE r i
  | .o2 .app a b, i => match spine a with | some n => if Nat.blt i n then nthE a i else nthE b (i - n) | none => none
  | _, _ => none
def fold1 (o : O1) (a : E) : Option E :=
  match o with
  | .lenL => match spine a with | some n => some (.lit (.i n)) | none => none
  | .at j => nthE a j
  | _ => none
def fold2 (o : O2) (a b : E) : Option E :=
  match o, b with
  | .nth, .lit (.i (.ofNat i)) => nthE a i
  | _, _ => none
def mk1 (o : O1) (a : E) : E := match a with | .lit d => .lit (o.den d) | a => match fold1 o a with | some e => e | none => .o1 o a
/-- Only cheap steps are folded: a literal list stays small. -/
def mk2 (o : O2) (a b : E) : E := match a, b with | .lit d, .lit e => .lit (o.den d e) | a, b => match fold2 o a b with | some e => e | none => .o2 o a b
def eqE (a b : E) : Bool := E.eqb a b
/-- A term of its sort: a wrapper, where the head does not tell. -/
def wI (e : E) : E := if e.srt = .i then e else mk1 .asI e
def wB (e : E) : E := if e.srt = .b then e else mk1 .asB e
def wS (e : E) : E := if e.srt = .s then e else mk1 .asS e
def wL (e : E) : E := if e.srt = .l then e else mk1 .asL e
/-- A choice of sort 'o' (iteI, iteB, iteS; ite: any). -/
def mkC (o : O3) (c a b : E) : E :=
  match c with
  | .lit (.b true) => a
  | .lit (.b false) => b
  | c => if eqE a b then a else .o3 o c a b
def mkIte (c a b : E) : E := mkC .ite c a b
def mkIteI (c a b : E) : E := mkC .iteI c a b
def mkIteS (c a b : E) : E := mkC .iteS c a b
def mkIteL (c a b : E) : E := mkC .iteL c a b
def mkIteB (c a b : E) : E :=
  match a, b with
  | .lit (.b true), .lit (.b false) => c
  | a, b => mkC .iteB c a b
def mk3 (o : O3) (a b c : E) : E := match a, b, c with | .lit d, .lit e, .lit f => .lit (o.den d e f) | a, b, c => .o3 o a b c
def eTrue : E := .lit (.b true)
def eFalse : E := .lit (.b false)
def eInt (n : Int) : E := .lit (.i n)
def eNil : E := .lit (.ls [])
def mkAnd (a b : E) : E := mkIteB a b eFalse
/-- a list out of terms -/
def mkRow (l : List E) : E := l.foldr (fun a r => mk2 .cons a r) eNil
def mkAdd (a b : E) : E := match a, b with | .lit (.i 0), b => wI b | a, .lit (.i 0) => wI a | a, b => mk2 .addZ a b
def mkSub (a b : E) : E := match b with | .lit (.i 0) => wI a | b => mk2 .subZ a b
/-- a part of a list -/
def mkSubL (l a b : E) : E := match a with
  | .lit (.i 0) => if eqE b (mk1 .lenL l) then wL l else mk3 .subL l a b
  | a => mk3 .subL l a b

theorem spine_den (η : Env) : ∀ {e : E} {n : Nat}, spine e = some n → (e.den η).toL.length = n
  | .lit d, n, h => by cases d <;> simp only [spine, Option.some.injEq, reduceCtorEq] at h; exact h
  | .var _, n, h => by simp [spine] at h
  | .fn _ _, n, h => by simp [spine] at h
  | .o1 _ _, n, h => by simp [spine] at h
  | .o2 o a b, n, h => by
    cases o <;> simp only [spine, reduceCtorEq] at h
    · split at h
      · rename_i m hm
        simp only [Option.some.injEq] at h; subst h
        simp [E.den, O2.den, toL_ls, spine_den η hm]
      · cases h
    · split at h
      · rename_i m k hm hk
        simp only [Option.some.injEq] at h; subst h
        simp [E.den, O2.den, toL_ls, spine_den η hm, spine_den η hk]
      · cases h
  | .o3 o a b c, n, h => by
    cases o <;> simp only [spine, reduceCtorEq] at h
    simp [E.den, O3.den, toL_ls, spine_den η h]
theorem nthE_den (η : Env) : ∀ {e : E} {i : Nat} {x : E}, nthE e i = some x → (e.den η).toL.getD i (.i 0) = x.den η
  | .lit d, i, x, h => by
    cases d <;> simp only [nthE, reduceCtorEq] at h
    split at h
    · rename_i d hd
      simp only [Option.some.injEq] at h; subst h
      simp [E.den, toL_ls, List.getD_eq_getElem?_getD, hd]
    · cases h
  | .var _, n, _, h => by simp [nthE] at h
  | .fn _ _, n, _, h => by simp [nthE] at h
  | .o1 _ _, n, _, h => by simp [nthE] at h
  | .o2 o a b, i, x, h => by
    cases o
    case cons =>
      cases i with
      | zero => simp only [nthE, Option.some.injEq] at h; subst h; simp [E.den, O2.den, toL_ls]
      | succ i =>
        simp only [nthE] at h
        have := nthE_den η h
        rw [← this]
        simp [E.den, O2.den, toL_ls]
    case app =>
      simp only [nthE] at h
      split at h
      · rename_i n hn
        have hl := spine_den η hn
        split at h
        · rename_i hi
          have hi : i < n := by simpa [Nat.blt_eq] using hi
          rw [← nthE_den η h]
          simp only [E.den, O2.den, toL_ls, List.getD_eq_getElem?_getD]
          rw [List.getElem?_append_left (by omega)]
        · rename_i hi
          have hi : n ≤ i := by simpa [Nat.blt_eq] using hi
          rw [← nthE_den η h]
          simp only [E.den, O2.den, toL_ls, List.getD_eq_getElem?_getD]
          rw [List.getElem?_append_right (by omega), hl]
      · cases h
    all_goals simp [nthE] at h
  | .o3 o a b c, n, _, h => by simp [nthE] at h
theorem fold1_den (η : Env) {o : O1} {a e : E} (h : fold1 o a = some e) : e.den η = o.den (a.den η) := by
  unfold fold1 at h
  split at h
  · split at h
    · rename_i n hn
      simp only [Option.some.injEq] at h; subst h
      simp [E.den, O1.den, spine_den η hn]
    · cases h
  · rw [← nthE_den η h]; rfl
  · cases h
theorem fold2_den (η : Env) {o : O2} {a b e : E} (h : fold2 o a b = some e) : e.den η = o.den (a.den η) (b.den η) := by
  unfold fold2 at h
  split at h
  · rw [← nthE_den η h]; rfl
  · cases h
theorem den_mk1 (η : Env) (o : O1) (a : E) : (mk1 o a).den η = o.den (a.den η) := by
  unfold mk1; split
  · rfl
  · split
    · rename_i h; exact fold1_den η h
    · rfl
theorem den_mk2 (η : Env) (o : O2) (a b : E) : (mk2 o a b).den η = o.den (a.den η) (b.den η) := by
  unfold mk2; split
  · rfl
  · split
    · rename_i h; exact fold2_den η h
    · rfl
theorem mkC_cases (η : Env) (o : O3) (c a b : E) : (mkC o c a b = a ∧ ((c.den η).toB = true ∨ a = b)) ∨ (mkC o c a b = b ∧ (c.den η).toB = false) ∨ mkC o c a b = .o3 o c a b := by
  unfold mkC
  split
  · exact .inl ⟨rfl, .inl rfl⟩
  · exact .inr (.inl ⟨rfl, rfl⟩)
  · split
    · rename_i h
      exact .inl ⟨rfl, .inr (E.eqb_eq _ _ h)⟩
    · exact .inr (.inr rfl)
theorem den_mkIte (η : Env) (c a b : E) : (mkIte c a b).den η = if (c.den η).toB then a.den η else b.den η := by
  unfold mkIte
  rcases mkC_cases η .ite c a b with ⟨h, h1 | h1⟩ | ⟨h, h1⟩ | h
  · rw [h, h1]; rfl
  · rw [h, h1]; simp
  · rw [h, h1]; rfl
  · rw [h]; rfl
theorem den_mkIteI (η : Env) (c a b : E) : ((mkIteI c a b).den η).toI = if (c.den η).toB then (a.den η).toI else (b.den η).toI := by
  unfold mkIteI
  rcases mkC_cases η .iteI c a b with ⟨h, h1 | h1⟩ | ⟨h, h1⟩ | h
  · rw [h, h1]; rfl
  · rw [h, h1]; simp
  · rw [h, h1]; rfl
  · rw [h]; rfl
theorem den_mkIteS (η : Env) (c a b : E) : ((mkIteS c a b).den η).toS = if (c.den η).toB then (a.den η).toS else (b.den η).toS := by
  unfold mkIteS
  rcases mkC_cases η .iteS c a b with ⟨h, h1 | h1⟩ | ⟨h, h1⟩ | h
  · rw [h, h1]; rfl
  · rw [h, h1]; simp
  · rw [h, h1]; rfl
  · rw [h]; rfl
theorem den_mkIteL (η : Env) (c a b : E) : ((mkIteL c a b).den η).toL = if (c.den η).toB then (a.den η).toL else (b.den η).toL := by
  unfold mkIteL
  rcases mkC_cases η .iteL c a b with ⟨h, h1 | h1⟩ | ⟨h, h1⟩ | h
  · rw [h, h1]; rfl
  · rw [h, h1]; simp
  · rw [h, h1]; rfl
  · rw [h]; rfl
theorem den_mkIteB (η : Env) (c a b : E) : ((mkIteB c a b).den η).toB = if (c.den η).toB then (a.den η).toB else (b.den η).toB := by
  unfold mkIteB
  split
  · cases h : (c.den η).toB <;> rfl
  · rcases mkC_cases η .iteB c a b with ⟨h, h1 | h1⟩ | ⟨h, h1⟩ | h
    · rw [h, h1]; rfl
    · rw [h, h1]; simp
    · rw [h, h1]; rfl
    · rw [h]; rfl
theorem den_wI (η : Env) (e : E) : ((wI e).den η).toI = (e.den η).toI := by
  unfold wI; split
  · rfl
  · rw [den_mk1]; rfl
theorem den_wB (η : Env) (e : E) : ((wB e).den η).toB = (e.den η).toB := by
  unfold wB; split
  · rfl
  · rw [den_mk1]; rfl
theorem den_wS (η : Env) (e : E) : ((wS e).den η).toS = (e.den η).toS := by
  unfold wS; split
  · rfl
  · rw [den_mk1]; rfl
theorem den_wL (η : Env) (e : E) : ((wL e).den η).toL = (e.den η).toL := by
  unfold wL; split
  · rfl
  · rw [den_mk1]; rfl
theorem srt_den (η : Env) : ∀ e : E, match e.srt with
    | .i => ∃ n, e.den η = .i n | .b => ∃ n, e.den η = .b n | .s => ∃ n, e.den η = .s n | .l => ∃ n, e.den η = .ls n | .d => True
  | .lit d => by cases d <;> exact ⟨_, rfl⟩
  | .var _ => trivial
  | .fn _ _ => trivial
  | .o1 o a => by cases o <;> first | exact ⟨_, rfl⟩ | trivial
  | .o2 o a b => by cases o <;> first | exact ⟨_, rfl⟩ | trivial
  | .o3 o a b c => by cases o <;> first | exact ⟨_, rfl⟩ | trivial
theorem wI_i (η : Env) (e : E) : (wI e).den η = .i (e.den η).toI := by
  unfold wI; split
  · rename_i h
    have := srt_den η e
    rw [h] at this
    obtain ⟨n, hn⟩ := this
    rw [hn]; rfl
  · rw [den_mk1]; rfl
theorem wB_b (η : Env) (e : E) : (wB e).den η = .b (e.den η).toB := by
  unfold wB; split
  · rename_i h
    have := srt_den η e
    rw [h] at this
    obtain ⟨n, hn⟩ := this
    rw [hn]; rfl
  · rw [den_mk1]; rfl
theorem wS_s (η : Env) (e : E) : (wS e).den η = .s (e.den η).toS := by
  unfold wS; split
  · rename_i h
    have := srt_den η e
    rw [h] at this
    obtain ⟨n, hn⟩ := this
    rw [hn]; rfl
  · rw [den_mk1]; rfl
theorem wL_l (η : Env) (e : E) : (wL e).den η = .ls (e.den η).toL := by
  unfold wL; split
  · rename_i h
    have := srt_den η e
    rw [h] at this
    obtain ⟨n, hn⟩ := this
    rw [hn]; rfl
  · rw [den_mk1]; rfl
theorem den_mkAdd (η : Env) (a b : E) : ((mkAdd a b).den η).toI = (a.den η).toI + (b.den η).toI := by
  unfold mkAdd; split
  · rw [den_wI]; simp [E.den, D.toI]
  · rw [den_wI]; simp [E.den, D.toI]
  · rw [den_mk2]; rfl
theorem den_mkSub (η : Env) (a b : E) : ((mkSub a b).den η).toI = (a.den η).toI - (b.den η).toI := by
  unfold mkSub; split
  · rw [den_wI]; simp [E.den, D.toI]
  · rw [den_mk2]; rfl
theorem den_mkAnd (η : Env) (a b : E) : ((mkAnd a b).den η).toB = ((a.den η).toB && (b.den η).toB) := by
  unfold mkAnd; rw [den_mkIteB]; cases (a.den η).toB <;> simp [eFalse, E.den, D.toB]
theorem den_mkRow (η : Env) : ∀ l : List E, (mkRow l).den η = .ls (l.map (E.den η))
  | [] => rfl
  | a :: l => by
    have := den_mkRow η l
    unfold mkRow at this ⊢
    simp only [List.foldr_cons, List.map_cons]
    rw [den_mk2, this]; rfl
theorem den_mk3 (η : Env) (o : O3) (a b c : E) : (mk3 o a b c).den η = o.den (a.den η) (b.den η) (c.den η) := by
  unfold mk3; split <;> rfl
theorem den_mkSubL (η : Env) (l a b : E) : ((mkSubL l a b).den η).toL = ((l.den η).toL.drop (a.den η).toI.toNat).take ((b.den η).toI.toNat - (a.den η).toI.toNat) := by
  unfold mkSubL; split
  · split
    · rename_i h
      have := E.eqb_eq _ _ h
      subst this
      rw [den_wL, den_mk1]
      simp [E.den, D.toI, O1.den]
    · rw [den_mk3]; rfl
  · rw [den_mk3]; rfl


/-! ### Symbolic values, memory, states -/
mutual
/-- What an element of an array is: a cell, or a row of cells. -/
inductive CT where
  | int (k : IntKind) | bool | str | sl (t : ET)
inductive ET where
  | one (c : CT) | row (cs : List CT)
end
instance : Inhabited CT := ⟨.bool⟩
instance : Inhabited ET := ⟨.one .bool⟩
mutual
def CT.eqb : CT → CT → Bool
  | .int k, .int k' => decide (k = k')
  | .bool, .bool => true
  | .str, .str => true
  | .sl t, .sl t' => ET.eqb t t'
  | _, _ => false
def ET.eqb : ET → ET → Bool
  | .one c, .one c' => CT.eqb c c'
  | .row l, .row l' => CT.eqbs l l'
  | _, _ => false
def CT.eqbs : List CT → List CT → Bool
  | [], [] => true
  | x :: l, y :: l' => CT.eqb x y && CT.eqbs l l'
  | _, _ => false
end
mutual
theorem CT.eqb_eq : ∀ x y : CT, CT.eqb x y = true → x = y
  | .int k, y, h => by cases y <;> simp [CT.eqb] at h ⊢; exact h
  | .bool, y, h => by cases y <;> simp [CT.eqb] at h ⊢
  | .str, y, h => by cases y <;> simp [CT.eqb] at h ⊢
  | .sl t, y, h => by cases y <;> simp [CT.eqb] at h ⊢; exact ET.eqb_eq _ _ h
theorem ET.eqb_eq : ∀ x y : ET, ET.eqb x y = true → x = y
  | .one c, y, h => by cases y <;> simp [ET.eqb] at h ⊢; exact CT.eqb_eq _ _ h
  | .row l, y, h => by cases y <;> simp [ET.eqb] at h ⊢; exact CT.eqbs_eq _ _ h
theorem CT.eqbs_eq : ∀ x y : List CT, CT.eqbs x y = true → x = y
  | [], y, h => by cases y <;> simp [CT.eqbs] at h ⊢
  | x :: l, y, h => by
    cases y with
    | nil => simp [CT.eqbs] at h
    | cons z l' =>
      simp only [CT.eqbs, Bool.and_eq_true] at h
      rw [CT.eqb_eq x z h.1, CT.eqbs_eq l l' h.2]
end
def ET.cts : ET → List CT
  | .one c => [c]
  | .row l => l
def ET.width (t : ET) : Nat := t.cts.length

inductive SV where
  | top                                     -- nothing is known
  | unk                                     -- one cell's value, not known
  | int (k : IntKind) (e : E) | bool (e : E) | str (e : E)
  | nil | ptr (c off : Nat)
  | snil | slice (c off len cap : Nat)
  | asl (nn : E) (c w : Nat) (off len : E)  -- a slice of an array; w: an element's cells; nn: it is not nil
  | eptr (c w : Nat) (i : E) (j : Nat)      -- cell j of the array's element i
  | rsl (t : ET) (e : E)                    -- a slice that is only read, told by what it holds
  | rptr (t : ET) (e i : E) (j : Nat)       -- cell j of its element i
  | hnd (c : Nat)                           -- the handle of an object that is told by its contents alone
  | fn (f : Nat) | clo (f : Nat) (caps : List SV)
  | agg (l : List SV) | tup (l : List SV)
  deriving Inhabited
mutual
def SV.eqb : SV → SV → Bool
  | .top, .top => true
  | .unk, .unk => true
  | .int k e, .int k' e' => decide (k = k') && eqE e e'
  | .bool e, .bool e' => eqE e e'
  | .str e, .str e' => eqE e e'
  | .nil, .nil => true
  | .ptr c o, .ptr c' o' => Nat.beq c c' && Nat.beq o o'
  | .snil, .snil => true
  | .slice c o l p, .slice c' o' l' p' => Nat.beq c c' && Nat.beq o o' && Nat.beq l l' && Nat.beq p p'
  | .asl n c w o l, .asl n' c' w' o' l' => eqE n n' && Nat.beq c c' && Nat.beq w w' && eqE o o' && eqE l l'
  | .eptr c w i j, .eptr c' w' i' j' => Nat.beq c c' && Nat.beq w w' && eqE i i' && Nat.beq j j'
  | .rsl t e, .rsl t' e' => ET.eqb t t' && eqE e e'
  | .rptr t e i j, .rptr t' e' i' j' => ET.eqb t t' && eqE e e' && eqE i i' && Nat.beq j j'
  | .hnd c, .hnd c' => Nat.beq c c'
  | .fn f, .fn f' => Nat.beq f f'
  | .clo f l, .clo f' l' => Nat.beq f f' && SV.eqbs l l'
  | .agg l, .agg l' => SV.eqbs l l'
  | .tup l, .tup l' => SV.eqbs l l'
  | _, _ => false
def SV.eqbs : List SV → List SV → Bool
  | [], [] => true
  | x :: l, y :: l' => SV.eqb x y && SV.eqbs l l'
  | _, _ => false
end
mutual
/-- No chunk from n on is spoken of. -/
def SV.under (n : Nat) : SV → Bool
  | .ptr c _ | .slice c _ _ _ | .hnd c | .asl _ c _ _ _ | .eptr c _ _ _ => Nat.blt c n
  | .clo _ l | .agg l | .tup l => SV.unders n l
  | _ => true
def SV.unders (n : Nat) : List SV → Bool
  | [] => true
  | x :: l => SV.under n x && SV.unders n l
end
/-- May it lie in one cell? -/
def SV.cellish : SV → Bool
  | .top | .agg _ | .tup _ => false
  | _ => true
def SV.cells : SV → Option (List SV)
  | .agg l => some l
  | .top => none
  | .tup _ => none
  | x => some [x]
inductive Chunk where
  | row (cells : List SV) (ty : TypeId)
  | arr (t : ET) (e : E)                    -- an array: what its elements hold
  | map (e : E)                             -- a map of numbers to bytes
  | opq (kind : Nat) (e : E)
  | dead
  deriving Inhabited
structure St where
  fr : List SV
  mem : List Chunk
  deriving Inhabited
inductive X where
  | normal | ret | exit (id : Nat)
  deriving DecidableEq, Inhabited

/-- A tree of outcomes: what must be, what may be. -/
inductive T (α : Type) where
  | ret (a : α) | ite (c : E) (t e : T α) | asrt (c : E) (t : T α) | fail (why : String)
  deriving Inhabited
def T.bind {α β : Type} : T α → (α → T β) → T β
  | .ret a, f => f a
  | .ite c t e, f => .ite c (t.bind f) (e.bind f)
  | .asrt c t, f => .asrt c (t.bind f)
  | .fail w, _ => .fail w
def T.holds {α : Type} (η : Env) : T α → (α → Prop) → Prop
  | .ret a, K => K a
  | .ite c t e, K => ((c.den η).toB = true → t.holds η K) ∧ ((c.den η).toB = false → e.holds η K)
  | .asrt c t, K => (c.den η).toB = true ∧ t.holds η K
  | .fail _, _ => False
def T.need {α : Type} (c : E) (t : T α) : T α := match c with | .lit (.b true) => t | c => .asrt c t
def T.opt {α : Type} (why : String) : Option α → T α | some a => .ret a | none => .fail why
/-- By a symbolic truth. -/
def T.cond {α : Type} (c : E) (t e : T α) : T α := match c with | .lit (.b true) => t | .lit (.b false) => e | c => .ite c t e

/-! ### Where two ways meet -/
def mergeK (k k' : IntKind) (c a b : E) : SV := if k = k' then .int k (mkIteI c a b) else .unk
mutual
def merge (c : E) : SV → SV → SV
  | .int k a, .int k' b => mergeK k k' c a b
  | .bool a, .bool b => .bool (mkIteB c a b)
  | .str a, .str b => .str (mkIteS c a b)
  | .asl n k w o l, .asl n' k' w' o' l' => if Nat.beq k k' && Nat.beq w w' then .asl (mkIteB c n n') k w (mkIteI c o o') (mkIteI c l l') else .unk
  | .rsl t e, .rsl t' e' => if ET.eqb t t' then .rsl t (mkIteL c e e') else .unk
  | .agg l, .agg l' => match merges c l l' with | some r => .agg r | none => .top
  | .tup l, .tup l' => match merges c l l' with | some r => .tup r | none => .top
  | x, y => if SV.eqb x y then x else if SV.cellish x && SV.cellish y then .unk else .top
def merges (c : E) : List SV → List SV → Option (List SV)
  | [], [] => some []
  | x :: l, y :: l' => match merges c l l' with | some r => some (merge c x y :: r) | none => none
  | _, _ => none
end
def isUnk : SV → Bool | .unk => true | _ => false
/-- A cell that was known on both ways, and is not any more. -/
def lossy : List SV → List SV → List SV → Bool
  | x :: l, y :: l', z :: r => (isUnk z && !isUnk x && !isUnk y) || lossy l l' r
  | _, _, _ => false
def mergeRow (c : E) (l l' : List SV) : Option (List SV) := match merges c l l' with | some r => if lossy l l' r then none else some r | none => none
def mergeChunk (c : E) : Chunk → Chunk → Option Chunk
  | .row l t, .row l' t' => if Nat.beq t t' then (mergeRow c l l').map (.row · t) else none
  | .arr t e, .arr t' e' => if ET.eqb t t' then some (.arr t (mkIteL c e e')) else none
  | .map e, .map e' => some (.map (mkIteL c e e'))
  | .opq k e, .opq k' e' => if Nat.beq k k' then some (.opq k (mkIte c e e')) else none
  | .dead, .dead => some .dead
  | _, _ => none
def mergeMem (c : E) : List Chunk → List Chunk → Option (List Chunk)
  | [], [] => some []
  | x :: l, y :: l' => match mergeChunk c x y, mergeMem c l l' with | some z, some r => some (z :: r) | _, _ => none
  | _, _ => none
def Chunk.under (n : Nat) : Chunk → Bool
  | .row l _ => SV.unders n l
  | _ => true
def memUnder (n : Nat) (m : List Chunk) : Bool := (m.take n).all (Chunk.under n)
/-- Strike the chunks from n on, where nobody speaks of them. -/
def cutSt (n : Nat) (s : St) : St := if SV.unders n s.fr && memUnder n s.mem then ⟨s.fr, s.mem.take n⟩ else s
def mergeSt' (c : E) (s s' : St) : Option St :=
  match merges c s.fr s'.fr, mergeMem c s.mem s'.mem with
  | some f, some m => some ⟨f, m⟩
  | _, _ => none
def mergeSt (n : Nat) (c : E) (s s' : St) : Option St :=
  if Nat.beq s.mem.length s'.mem.length then mergeSt' c s s' else mergeSt' c (cutSt n s) (cutSt n s')
def joinLeaf (n : Nat) (c : E) (x : X × St) (y : X × St) : T (X × St) :=
  if x.1 = y.1 then match mergeSt n c x.2 y.2 with | some s => .ret (x.1, s) | none => .ite c (.ret x) (.ret y)
  else .ite c (.ret x) (.ret y)
/-- The right side's asserts come out. -/
def joinR (n : Nat) (c : E) (x : X × St) : T (X × St) → T (X × St)
  | .asrt a t => .asrt (mkIteB c eTrue a) (joinR n c x t)
  | .ret y => joinLeaf n c x y
  | t => .ite c (.ret x) t
def joinL (n : Nat) (c : E) (t e : T (X × St)) : T (X × St) :=
  match t with
  | .asrt a t => .asrt (mkIteB c a eTrue) (joinL n c t e)
  | .ret x => joinR n c x e
  | t => .ite c t e
def join (n : Nat) : T (X × St) → T (X × St)
  | .ite c t e => joinL n c (join n t) (join n e)
  | .asrt a t => .asrt a (join n t)
  | t => t

/-! ### Single operations -/
def ofScalar : Value → SV
  | .bool b => .bool (.lit (.b b))
  | .int k n => .int k (eInt n)
  | .string s => .str (.lit (.s s.data.toList))
  | .pointer none => .nil
  | .slice none 0 0 => .snil
  | .func (.func f) first captured => match first.toList, captured.toList with | [], [] => .fn f | _, _ => .top
  | _ => .top
/-- A constant value: a scalar, or a row of them. -/
def ofValue : Value → SV
  | .agg cs => let l := cs.toList.map ofScalar; if l.all SV.cellish then .agg l else .top
  | .tuple cs => match cs.toList with | [] => .tup [] | _ => .top
  | v => ofScalar v
/-- A cell's zero that the table of types gives: what is no scalar of ours is one cell all the same. -/
def ofCell : Value → SV
  | .agg _ | .tuple _ => .top
  | v => match ofScalar v with | .top => .unk | x => x
def opd (s : St) : Operand → SV
  | .tmp t => s.fr.getD t (.tup [])
  | .const v => ofValue v
  | .global _ => .top
  | .func f => .fn f
/-! ### Arrays -/
def ctOf (P : Program) (t : TypeId) : Option CT :=
  match P.underlying t with
  | some (.int k) => some (.int k)
  | some .bool => some .bool
  | some .string => some .str
  | _ => none
/-- What an element of this type is, where we can tell. -/
def etOf (P : Program) (t : TypeId) : Option ET :=
  match P.underlying t with
  | some (.struct _) => match P.cellTypes P.depth t with
    | some ts => let l := ts.filterMap (ctOf P); if Nat.beq l.length ts.length && Nat.beq (P.cellsOf t) ts.length then some (.row l) else none
    | none => none
  | some _ => match ctOf P t with | some c => if Nat.beq (P.cellsOf t) 1 then some (.one c) else none | none => none
  | none => none
def svOf : CT → E → SV
  | .int k, e => .int k (wI e)
  | .bool, e => .bool (wB e)
  | .str, e => .str (wS e)
  | .sl t, e => .rsl t (wL e)
/-- A term that is the cell's contents to the letter. -/
def unOf : CT → SV → Option E
  | .int k, .int k' e => if k = k' then some (wI e) else none
  | .bool, .bool e => some (wB e)
  | .str, .str e => some (wS e)
  | _, _ => none
def unOfs : List CT → List SV → Option (List E)
  | [], [] => some []
  | c :: cs, x :: xs => match unOf c x, unOfs cs xs with | some e, some l => some (e :: l) | _, _ => none
  | _, _ => none
/-- Cell j of an element. -/
def cellE (t : ET) (d : E) (j : Nat) : E := match t with | .one _ => d | .row _ => mk1 (.at j) d
def elemCells (t : ET) (d : E) : List SV := t.cts.zipIdx.map fun p => svOf p.1 (cellE t d p.2)
def elemOf (t : ET) (l : List E) : Option E := match t, l with | .one _, [e] => some e | .one _, _ => none | .row _, l => some (mkRow l)
def rowOf (m : List Chunk) (c : Nat) : Option (List SV × TypeId) := match m[c]? with | some (.row l t) => some (l, t) | _ => none
def isAgg (P : Program) (t : TypeId) : Option Bool :=
  match P.underlying t with
  | some (.struct _) | some (.array _ _) => some true
  | some _ => some false
  | none => none
def zeroOf (P : Program) (t : TypeId) : Option SV :=
  match P.info? t with
  | some i => match i.zero with
    | some (.agg cs) => let l := cs.toList.map ofCell; if l.all SV.cellish then some (.agg l) else none
    | some v => some (ofCell v)
    | none => none
  | none => none
def loadSV (P : Program) (m : List Chunk) (t : TypeId) : SV → Option SV
  | .ptr c off => match rowOf m c, isAgg P t with
    | some (l, _), some true => if Nat.ble (off + P.cellsOf t) l.length && (P.info? t).isSome then some (.agg ((l.drop off).take (P.cellsOf t))) else none
    | some (l, _), some false => l[off]?
    | _, _ => none
  | _ => none
def putAll {α : Type} (l : List α) (off : Nat) : List α → List α
  | [] => l
  | v :: r => putAll (l.set off v) (off + 1) r
def storeSV (P : Program) (m : List Chunk) (t : TypeId) (a v : SV) : Option (List Chunk) :=
  match a, v.cells with
  | .ptr c off, some vs => match rowOf m c with
    | some (l, ty) => if Nat.ble (off + vs.length) l.length && Nat.beq vs.length (P.cellsOf t) && (P.info? t).isSome && vs.all SV.cellish then some (m.set c (.row (putAll l off vs) ty)) else none
    | none => none
  | _, _ => none
def fillSV (size : Nat → Option (Nat × Nat)) (cells : List SV) : List (Nat × SV) → Option (List SV)
  | [] => some cells
  | (i, v) :: rest => match size i, v.cells with
    | some (off, n), some vs => if Nat.beq vs.length n && Nat.ble (off + vs.length) cells.length then fillSV size (putAll cells off vs) rest else none
    | _, _ => none
def placesOf (P : Program) (fs : List Field) : Option (List (Nat × Nat)) :=
  match fs with
  | [] => some []
  | f :: r => match P.info? f.type, placesOf P r with | some i, some l => some ((f.offset, i.size) :: l) | _, _ => none
def zeroCellsSV (P : Program) (t : TypeId) : Option (List SV) := (zeroOf P t).bind SV.cells
def buildSV (P : Program) (t : TypeId) (parts : List (Nat × SV)) : Option SV :=
  match zeroCellsSV P t, P.underlying t with
  | some z, some (.struct fs) => match placesOf P fs.toList with
    | some ps => (fillSV (ps[·]?) z parts).map .agg
    | none => none
  | some z, some (.array _ elem) => match P.info? elem with
    | some i => (fillSV (fun j => some (j * i.size, i.size)) z parts).map .agg
    | none => none
  | _, _ => none
def fieldAddrSV (P : Program) (t : TypeId) (a : SV) (f : Nat) : Option SV :=
  match a, P.underlying t with
  | .ptr c off, some (.struct fs) => match fs[f]? with
    | some f => match P.info? f.type with
      | some i => if Nat.beq i.size 0 then none else some (.ptr c (off + f.offset))
      | none => none
    | none => none
  | .eptr c w ix j, some (.struct fs) => match fs[f]? with
    | some f => match P.info? f.type with
      | some i => if Nat.beq i.size 0 then none else some (.eptr c w ix (j + f.offset))
      | none => none
    | none => none
  | .rptr t' e ix j, some (.struct fs) => match fs[f]? with
    | some f => match P.info? f.type with
      | some i => if Nat.beq i.size 0 then none else some (.rptr t' e ix (j + f.offset))
      | none => none
    | none => none
  | _, _ => none
def partSV (P : Program) (t : TypeId) (cs : List SV) (off : Nat) : Option SV :=
  match isAgg P t with
  | some true => if Nat.ble (off + P.cellsOf t) cs.length && (P.info? t).isSome then some (.agg ((cs.drop off).take (P.cellsOf t))) else none
  | some false => cs[off]?
  | none => none
def fieldSV (P : Program) (t : TypeId) (x : SV) (f : Nat) : Option SV :=
  match x, P.underlying t with
  | .agg cs, some (.struct fs) => match fs[f]? with | some f => partSV P f.type cs f.offset | none => none
  | _, _ => none
def litNat : SV → Option Nat
  | .int _ (.lit (.i (.ofNat n))) => some n
  | _ => none
def indexSV (P : Program) (t : TypeId) (x ix : SV) : Option SV :=
  match x, P.underlying t, litNat ix with
  | .agg cs, some (.array n elem), some i => if Nat.blt i n then match P.info? elem with | some inf => partSV P elem cs (i * inf.size) | none => none else none
  | _, _, _ => none
def indexAddrSV (P : Program) (t : TypeId) (x ix : SV) : Option SV :=
  match x, P.underlying t, litNat ix with
  | .ptr c off, some (.array n elem), some i => if Nat.blt i n then match P.info? elem with | some inf => some (.ptr c (off + i * inf.size)) | none => none else none
  | .slice c off len _, some (.slice elem), some i => if Nat.blt i len then match P.info? elem with | some inf => some (.ptr c (off + i * inf.size)) | none => none else none
  | _, _, _ => none
def nilPtr : SV → Option Bool
  | .nil => some true
  | .ptr _ _ => some false
  | _ => none
def nilSl : SV → Option E
  | .snil => some eTrue
  | .slice _ _ _ _ => some eFalse
  | .asl nn _ _ _ _ => some (mk1 .not nn)
  | _ => none
mutual
/-- '==' at a type. -/
def eqSV (P : Program) : Nat → TypeId → SV → SV → Option E
  | 0, _, _, _ => none
  | d + 1, t, x, y =>
    match P.underlying t, x, y with
    | some .bool, .bool a, .bool b => some (mk2 .beq a b)
    | some (.int _), .int k a, .int k' b => if k = k' then some (mk2 .eq a b) else none
    | some .string, .str a, .str b => some (mk2 .seq a b)
    | some (.pointer _), .nil, y => (nilPtr y).map fun b => .lit (.b b)
    | some (.pointer _), x, .nil => (nilPtr x).map fun b => .lit (.b b)
    | some (.struct fs), .agg xs, .agg ys => if P.stoodInHeld t then none else eqFieldsSV P d xs ys fs.toList
    | some (.slice _), .snil, y => nilSl y
    | some (.slice _), x, .snil => nilSl x
    | _, _, _ => none
def eqFieldsSV (P : Program) : Nat → List SV → List SV → List Field → Option E
  | _, _, _, [] => some eTrue
  | 0, _, _, _ => none
  | d + 1, xs, ys, f :: fs =>
    if f.name = "_" then none else
    match partSV P f.type xs f.offset, partSV P f.type ys f.offset with
    | some a, some b => match eqSV P d f.type a b, eqFieldsSV P d xs ys fs with
      | some e, some r => some (mkIteB e r eFalse)
      | _, _ => none
    | _, _ => none
end

/-! ### Renumbering: the chunks from n on in the order in which they are spoken of; what nobody speaks of goes -/
mutual
def SV.mapR (τ : Nat → Nat) (g : E → E) : SV → SV
  | .top => .top
  | .unk => .unk
  | .int k e => .int k (g e)
  | .bool e => .bool (g e)
  | .str e => .str (g e)
  | .nil => .nil
  | .ptr c o => .ptr (τ c) o
  | .snil => .snil
  | .slice c o l p => .slice (τ c) o l p
  | .asl n c w o l => .asl (g n) (τ c) w (g o) (g l)
  | .eptr c w i j => .eptr (τ c) w (g i) j
  | .rsl t e => .rsl t (g e)
  | .rptr t e i j => .rptr t (g e) (g i) j
  | .hnd c => .hnd (τ c)
  | .fn f => .fn f
  | .clo f l => .clo f (SV.mapRs τ g l)
  | .agg l => .agg (SV.mapRs τ g l)
  | .tup l => .tup (SV.mapRs τ g l)
def SV.mapRs (τ : Nat → Nat) (g : E → E) : List SV → List SV
  | [] => []
  | x :: l => SV.mapR τ g x :: SV.mapRs τ g l
end
def Chunk.mapR (τ : Nat → Nat) (g : E → E) : Chunk → Chunk
  | .row l t => .row (SV.mapRs τ g l) t
  | .arr t e => .arr t (g e)
  | .map e => .map (g e)
  | .opq k e => .opq k (g e)
  | .dead => .dead
def addRef (c : Nat) (l : List Nat) : List Nat := if l.any (Nat.beq c) then l else l ++ [c]
mutual
def SV.refs (acc : List Nat) : SV → List Nat
  | .ptr c _ | .slice c _ _ _ | .hnd c | .asl _ c _ _ _ | .eptr c _ _ _ => addRef c acc
  | .clo _ l | .agg l | .tup l => SV.refss acc l
  | _ => acc
def SV.refss (acc : List Nat) : List SV → List Nat
  | [] => acc
  | x :: l => SV.refss (SV.refs acc x) l
end
mutual
/-- Every chunk that it speaks of is one of these. -/
def SV.allC (p : Nat → Bool) : SV → Bool
  | .ptr c _ | .slice c _ _ _ | .hnd c | .asl _ c _ _ _ | .eptr c _ _ _ => p c
  | .clo _ l | .agg l | .tup l => SV.allCs p l
  | _ => true
def SV.allCs (p : Nat → Bool) : List SV → Bool
  | [] => true
  | x :: l => SV.allC p x && SV.allCs p l
end
def Chunk.allC (p : Nat → Bool) : Chunk → Bool
  | .row l _ => SV.allCs p l
  | _ => true
def Chunk.refs (acc : List Nat) : Chunk → List Nat
  | .row l _ => SV.refss acc l
  | _ => acc
def bfs (m : List Chunk) : Nat → Nat → List Nat → List Nat
  | 0, _, seen => seen
  | n + 1, i, seen => match seen[i]? with
    | none => seen
    | some c => bfs m n (i + 1) (match m[c]? with | some ch => ch.refs seen | none => seen)
def posOf (c : Nat) : Nat → List Nat → Nat
  | i, [] => i
  | i, d :: r => if Nat.beq d c then i else posOf c (i + 1) r
def canonOk (n : Nat) (π : List Nat) (s : St) : Bool :=
  (List.range n).all (fun i => match π[i]? with | some c => Nat.beq c i | none => false) &&
  (List.range π.length).all (fun i => match π[i]? with | some c => Nat.beq (posOf c 0 π) i && (match s.mem[c]? with | some ch => ch.allC (fun d => match π[posOf d 0 π]? with | some d' => Nat.beq d' d | none => false) | none => false) | none => false) &&
  SV.allCs (fun d => match π[posOf d 0 π]? with | some d' => Nat.beq d' d | none => false) s.fr
def canonAt (π : List Nat) (s : St) : St := ⟨SV.mapRs (posOf · 0 π) id s.fr, π.map fun c => (s.mem.getD c .dead).mapR (posOf · 0 π) id⟩
def canon (n : Nat) (s : St) : St :=
  if Nat.ble s.mem.length n then s else
  let π := bfs s.mem s.mem.length 0 (SV.refss (List.range n) s.fr)
  if canonOk n π s then canonAt π s else s
end Go.Sy
