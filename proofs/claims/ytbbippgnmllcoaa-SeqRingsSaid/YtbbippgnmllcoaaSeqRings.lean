/-
  SeqRings: a ring gives back what was pushed, in order, and takes no more than it has room for, call by call as P17.2 says, whatever the room and the calls.
  No conditions: every input that can be read.
-/
import Derived.Test.YtbbippgnmllcoaaConsSeqRings
import Derived.Test.YtbbippgnmllcoaaSyV
import Derived.Test.YtbbippgnmllcoaaRows
set_option linter.unusedVariables false
set_option linter.unusedSimpArgs false
namespace Go.Proofs.Ytbbippgnmllcoaa.seqRings
open Go.Sy Go.ChangeShapes Go.WideShapes Go.ChangeAt Go.RowKit
/-- What 'adit/aditlaw17.SeqRings' comes to. -/
def val (F : Nat → D → D) (v0 : Int) (v1 : List D) : Bool :=
  let x0 : D := F 0 (D.ls ([] : List D))
  let x1 : Bool := (D.toB x0)
  let x2 : Int := zmax v0 0
  let x3 : Int := zmin x2 65535
  let x4 : Bool := decide ((v0 : Int) < 0)
  let x5 : Bool := decide ((v0 : Int) > 65535)
  let x6 : Int := if x5 then 65535 else v0
  let x7 : Int := if x4 then 0 else x6
  let x8 : List D := (D.i x7) :: ([(D.b false), (D.i 0), (D.ls []), (D.ls [])] : List D)
  let x9 : List D := (D.i 0) :: x8
  let x10 : List D := (D.b false) :: x9
  let x11 : List D := (D.i 0) :: x10
  let x12 : List D := (D.i 0) :: x11
  let x13 : List D := (D.i x3) :: x12
  let x14 : List D := (D.i 0) :: x13
  let x15 : List D := (D.ls v1) :: x14
  let x16 : D := F 18 (D.ls x15)
  let x17 : Bool := (D.toB x16)
  let x18 : D := F 19 (D.ls x15)
  let x19 : Int := (D.toI x18)
  let x20 : Bool := (x19 : Int) == 0
  let x21 : D := F 20 (D.ls x15)
  let x22 : List D := (D.toL x21)
  let x23 : D := (x22).getD 2 (D.i 0)
  let x24 : Bool := decide ((0 : Int) ≥ (D.toI x23))
  let x25 : Int := w64 ((D.toI x23) - 0)
  let x26 : Int := zmin 70000 x25
  let x27 : Bool := decide ((x26 : Int) ≥ 0)
  let x28 : Bool := decide ((x26 : Int) ≤ 1099511627776)
  let x29 : Bool := if x27 then x28 else false
  let x30 : Bool := if x24 then true else x29
  let x31 : Bool := if x20 then true else x30
  let x32 : D := (x22).getD 1 (D.i 0)
  let x33 : Int := (D.toI x32)
  let x34 : Int := (D.toI x23)
  let x35 : D := (x22).getD 3 (D.i 0)
  let x36 : Bool := (D.toB x35)
  let x37 : D := (x22).getD 4 (D.i 0)
  let x38 : Int := (D.toI x37)
  let x39 : List D := List.replicate (Int.toNat x26) (D.i 0)
  let x40 : D := (x22).getD 8 (D.i 0)
  let x41 : List D := (D.toL x40)
  let x42 : List D := (D.ls x41) :: ([] : List D)
  let x43 : List D := (D.ls x39) :: x42
  let x44 : List D := (D.i x38) :: x43
  let x45 : List D := (D.i 0) :: x44
  let x46 : List D := (D.b x36) :: x45
  let x47 : List D := (D.i x34) :: x46
  let x48 : List D := (D.i x33) :: x47
  let x49 : List D := (D.i x3) :: x48
  let x50 : List D := (D.i 0) :: x49
  let x51 : List D := (D.i x26) :: x50
  let x52 : List D := (D.i x26) :: x51
  let x53 : List D := (D.i 0) :: x52
  let x54 : List D := (D.b true) :: x53
  let x55 : List D := (D.i 0) :: x54
  let x56 : D := F 9 (D.ls x55)
  let x57 : Bool := (D.toB x56)
  let x58 : Bool := if x24 then true else x57
  let x59 : Bool := if x20 then true else x58
  let x60 : D := (x22).getD 7 (D.i 0)
  let x61 : Int := (D.toI x60)
  let x62 : Bool := (x26 : Int) != x61
  let x63 : D := (x22).getD 6 (D.i 0)
  let x64 : Bool := (D.toB x63)
  let x65 : D := F 11 (D.ls x55)
  let x66 : List D := (D.toL x65)
  let x67 : D := (x66).getD 3 (D.i 0)
  let x68 : List D := (D.toL x67)
  let x69 : D := (x22).getD 9 (D.i 0)
  let x70 : List D := (D.toL x69)
  let x71 : List D := (D.ls x70) :: ([] : List D)
  let x72 : List D := (D.ls x68) :: x71
  let x73 : List D := (D.i 0) :: x72
  let x74 : List D := (D.i x61) :: x73
  let x75 : List D := (D.i 0) :: x74
  let x76 : List D := (D.b x64) :: x75
  let x77 : List D := (D.i x26) :: x76
  let x78 : List D := (D.i 0) :: x77
  let x79 : List D := (D.b true) :: x78
  let x80 : D := F 12 (D.ls x79)
  let x81 : Bool := (D.toB x80)
  let x82 : Bool := if x62 then true else x81
  let x83 : Bool := if x24 then true else x82
  let x84 : Bool := if x20 then true else x83
  let x85 : Bool := (0 : Int) != x61
  let x86 : Bool := if x85 then false else true
  let x87 : D := F 13 (D.ls x79)
  let x88 : Int := (D.toI x87)
  let x89 : Bool := (x88 : Int) == 0
  let x90 : Bool := if x89 then false else true
  let x91 : Bool := if x62 then false else x90
  let x92 : Bool := if x24 then x86 else x91
  let x93 : Bool := if x20 then false else x92
  (x1 && (x17 && (x31 && (x59 && (x84 && x93)))))
def symArgs : List SV := [.int .i64 (.var 0), .rsl (.row [(.int .i64), (.int .i64), (.int .i64), (.sl (.one (.int .i64)))]) (.var 1)]
set_option maxRecDepth 100000 in
theorem run (F : Nat → D → D) (R : Nat → Option (List Value)) (v0 : Int) (v1 : List D) : (evFun Try.prog z7 1000 5 symArgs []).okB (envL F R [.i v0, .ls v1]) = val F v0 v1 := by kernel_rfl

theorem zmaxE (x y : Int) : zmax x y = max x y := by unfold zmax; split <;> omega
theorem zminE (x y : Int) : zmin x y = min x y := by unfold zmin; split <;> omega
/-- A place that goes round. -/
def rd (f j R : Int) : Int := if f + j < R then f + j else f + j - R
theorem tmod_rd {x R : Int} (h0 : 0 ≤ x) (h1 : x < 2 * R) : Int.tmod x R = if x < R then x else x - R := by
  rw [Int.tmod_eq_emod_of_nonneg h0]
  split
  · exact Int.emod_eq_of_lt h0 (by assumption)
  · rename_i h
    have e : x % R = (x - R) % R := by rw [Int.sub_emod_right]
    rw [e]
    exact Int.emod_eq_of_lt (by omega) (by omega)
def at' (A : List D) (p : Int) : Int := (A.getD p.toNat (.i 0)).toI
theorem at_set {A : List D} {p q : Int} {n : Int} (hp : 0 ≤ p) (hq : 0 ≤ q) (hl : p < (A.length : Int)) : at' (A.set p.toNat (.i n)) q = if q = p then n else at' A q := by
  unfold at'
  rw [List.getD_eq_getElem?_getD, List.getD_eq_getElem?_getD]
  by_cases h : q = p
  · subst h
    rw [if_pos rfl, List.getElem?_set_self (by omega)]; rfl
  · rw [if_neg h, List.getElem?_set_ne (by omega)]
theorem push_loop {n R f c : Int} {v0 : Int} {b : Bool} {items : List D} (hR : 0 < R) (hR2 : R ≤ 65535) (hf : 0 ≤ f) (hf2 : f < R) (hc : 0 ≤ c) (hn : c + n ≤ R) (hi : (items.length : Int) = n) : ∀ (k : Nat) (i : Int) (A : List D), 0 ≤ i → n - i = k → (A.length : Int) = R →
    ∃ A', loopV spPush [.i v0, .ls items, .i n, .i i, .i R, .i f, .i c, .b b, .i 0, .i R, .ls A] = some (1, [.i v0, .i R, .i f, .i c, .b b, .i 0, .i R, .ls A']) ∧ (A'.length : Int) = R ∧
      ∀ j, 0 ≤ j → j < c + n → at' A' (rd f j R) = if j < c + i then at' A (rd f j R) else at' items (j - c)
  | 0, i, A, h0, hk, hA => by
    refine ⟨A, ?_, hA, fun j hj0 hj => by rw [if_pos (by omega)]⟩
    refine loopV_out (j := 0) ?_
    show stepPush v0 items n i R f c b 0 R A = _
    unfold stepPush
    extract_lets -merge x0
    rw [if_neg (by show ¬ decide (i < n) = true; simp; omega)]
  | k + 1, i, A, h0, hk, hA => by
    have hs : spPush [.i v0, .ls items, .i n, .i i, .i R, .i f, .i c, .b b, .i 0, .i R, .ls A] = some (0, [.i v0, .ls items, .i n, .i (i + 1), .i R, .i f, .i c, .b b, .i 0, .i R, .ls (A.set (rd f (c + i) R).toNat (.i (at' items i)))]) := by
      show stepPush v0 items n i R f c b 0 R A = _
      unfold stepPush
      extract_lets -merge x0 x1 x2 x3 x4 x5 x6 x7 x8 x9 x10 x11 x12 x13 x14 x15 x16 x17 x18
      have e7 : x7 = f + (c + i) := by
        have e6 : x6 = f + c := w64_in (by omega) (by omega)
        show w64 (x6 + i) = _
        rw [e6, w64_in (by omega) (by omega)]; omega
      have e8 : x8 = rd f (c + i) R := by
        show Int.tmod x7 R = _
        rw [e7, tmod_rd (by omega) (by omega)]; rfl
      have b8 : 0 ≤ x8 ∧ x8 < R := by rw [e8]; unfold rd; split <;> omega
      have e12 : x12 = x8 := by show 0 + x8 = x8; omega
      rw [if_pos (by show decide (i < n) = true; simp; omega), if_pos (by show (if decide (i ≥ 0) = true then decide (i < (items.length : Int)) else false) = true; rw [if_pos (by simpa using h0)]; simp; omega),
        if_pos (by show (R != 0) = true; simp; omega), if_pos (by show (if decide (x8 ≥ 0) = true then decide (x8 < R) else false) = true; rw [if_pos (by simpa using b8.1)]; simpa using b8.2),
        if_pos (by show decide (x12 < (A.length : Int)) = true; rw [e12, hA]; simpa using b8.2)]
      have e15 : x15 = i + 1 := w64_in (by omega) (by omega)
      show (some (0, [D.i v0, .ls items, .i n, .i x15, .i R, .i f, .i c, .b b, .i 0, .i R, .ls (A.set x12.toNat (.i (at' items i)))]) : Option (Nat × List D)) = _
      rw [e15, e12, e8]
    have b8 : 0 ≤ rd f (c + i) R ∧ rd f (c + i) R < R := by unfold rd; split <;> omega
    obtain ⟨A', h1, h2, h3⟩ := push_loop hR hR2 hf hf2 hc hn hi k (i + 1) (A.set (rd f (c + i) R).toNat (.i (at' items i))) (by omega) (by omega) (by simpa using hA)
    refine ⟨A', (loopV_again hs).trans h1, h2, fun j hj0 hj => ?_⟩
    rw [h3 j hj0 hj]
    have hj8 : 0 ≤ rd f j R := by unfold rd; split <;> omega
    rw [at_set b8.1 hj8 (by omega)]
    by_cases hlt : j < c + i
    · rw [if_pos (by omega), if_pos hlt, if_neg (by unfold rd; split <;> split <;> omega)]
    · rw [if_neg hlt]
      by_cases heq : j = c + i
      · subst heq
        rw [if_pos (by omega), if_pos rfl]; congr 1; omega
      · rw [if_neg (by omega)]
theorem rpeek_none {n fr : Int} {v4 : Int} {v5 : Bool} {v7 : Int} {L : List D} (h : fr < 0 ∨ n ≤ 0 ∨ v7 ≤ fr) :
    loopV spRPeek [.i n, .b false, .i 0, .i fr, .i v4, .b v5, .i 0, .i v7, .ls [], .ls L] = some (1, [.b false, .i 0, .ls [], .i v4, .b v5, .i 0, .i v7, .ls L]) := by
  refine loopV_out (j := 0) ?_
  show stepRPeek n false 0 fr v4 v5 0 v7 [] L = _
  unfold stepRPeek
  extract_lets -merge x0 x1 x2 x3 x4
  rw [if_neg (by
    show ¬ (if decide (fr ≥ 0) = true then (if decide (fr < v7) = true then decide ((0 : Int) < n) else false) else false) = true
    by_cases h1 : fr ≥ 0
    · rw [if_pos (by simpa using h1)]
      by_cases h2 : fr < v7
      · rw [if_pos (by simpa using h2)]; simp; omega
      · rw [if_neg (by simpa using h2)]; decide
    · rw [if_neg (by simpa using h1)]; decide)]
theorem rpeek_loop {n fr : Int} {L : List D} {v4 : Int} {v5 : Bool} (h0 : 0 ≤ fr) (hL : (L.length : Int) ≤ 65535) {t : Int} (ht : t = min n ((L.length : Int) - fr)) : ∀ (k : Nat) (m : Int) (out : List D) (nn : Bool), (out.length : Int) = m → t - m = k →
    (∀ j, 0 ≤ j → j < m → at' out j = at' L (fr + j)) →
    ∃ nn' out', loopV spRPeek [.i n, .b nn, .i m, .i (fr + m), .i v4, .b v5, .i 0, .i (L.length : Int), .ls out, .ls L] = some (1, [.b nn', .i t, .ls out', .i v4, .b v5, .i 0, .i (L.length : Int), .ls L]) ∧ (out'.length : Int) = t ∧
      ∀ j, 0 ≤ j → j < t → at' out' j = at' L (fr + j)
  | 0, m, out, nn, hm, hk, ho => by
    have e : m = t := by omega
    subst e
    refine ⟨nn, out, loopV_out (j := 0) ?_, hm, ho⟩
    show stepRPeek n nn m (fr + m) v4 v5 0 (L.length : Int) out L = _
    unfold stepRPeek
    extract_lets -merge x0 x1 x2 x3 x4
    rw [if_neg (by
      show ¬ (if decide (fr + m ≥ 0) = true then (if decide (fr + m < (L.length : Int)) = true then decide (m < n) else false) else false) = true
      rw [if_pos (by simp; omega)]
      by_cases h2 : fr + m < (L.length : Int)
      · rw [if_pos (by simpa using h2)]; simp; omega
      · rw [if_neg (by simpa using h2)]; decide)]
  | k + 1, m, out, nn, hm, hk, ho => by
    have hs : spRPeek [.i n, .b nn, .i m, .i (fr + m), .i v4, .b v5, .i 0, .i (L.length : Int), .ls out, .ls L] = some (0, [.i n, .b true, .i (m + 1), .i (fr + (m + 1)), .i v4, .b v5, .i 0, .i (L.length : Int), .ls (out ++ [.i (at' L (fr + m))]), .ls L]) := by
      show stepRPeek n nn m (fr + m) v4 v5 0 (L.length : Int) out L = _
      unfold stepRPeek
      extract_lets -merge x0 x1 x2 x3 x4 x5 x6 x7 x8 x9 x10 x11 x12 x13 x14 x15 x16 x17 x18 x19
      have e0 : x0 = true := by show decide (fr + m ≥ 0) = true; simp; omega
      have e1 : x1 = true := by show decide (fr + m < (L.length : Int)) = true; simp; omega
      have e2 : x2 = true := by show decide (m < n) = true; simp; omega
      have e4 : x4 = true := by show (if x0 = true then (if x1 = true then x2 else false) else false) = true; rw [e0, e1, e2]; rfl
      have e5 : x5 = true := by show (if x0 = true then x1 else false) = true; rw [e0, e1]; rfl
      have e6 : x6 = fr + m := by show 0 + (fr + m) = _; omega
      have e8 : x8 = true := by show decide (x6 < (L.length : Int)) = true; rw [e6]; exact e1
      have e11 : x11 = out := by
        show (out.drop (Int.toNat 0)).take (m.toNat - Int.toNat 0) = out
        have : (m.toNat - Int.toNat 0) = out.length := by omega
        rw [this]; simp
      have e15 : x15 = out ++ [.i (at' L (fr + m))] := by show x11 ++ [D.i (at' L x6)] = _; rw [e11, e6]
      have e16 : x16 = m + 1 := by show ((x15.length : Nat) : Int) = _; rw [e15]; simp; omega
      have e18 : x18 = true := by
        show (if decide (m ≤ (out.length : Int)) = true then decide (x16 ≤ 1099511627776) else false) = true
        rw [if_pos (by simp; omega), e16]; simp; omega
      have e19 : x19 = fr + (m + 1) := by show w64 (fr + m + 1) = _; rw [w64_in (by omega) (by omega)]; omega
      rw [if_pos e4, if_pos e5, if_pos e8, if_pos e18, e16, e19, e15]
    obtain ⟨nn', out', h1, h2, h3⟩ := rpeek_loop (v4 := v4) (v5 := v5) h0 hL ht k (m + 1) (out ++ [.i (at' L (fr + m))]) true (by simp; omega) (by omega) (by
      intro j hj0 hj
      unfold at'
      rw [List.getD_eq_getElem?_getD]
      by_cases h : j < m
      · rw [List.getElem?_append_left (by omega), ← List.getD_eq_getElem?_getD]
        exact ho j hj0 h
      · have : j = m := by omega
        subst this
        rw [List.getElem?_append_right (by omega)]
        have : j.toNat - out.length = 0 := by omega
        rw [this]; rfl)
    exact ⟨nn', out', (loopV_again hs).trans h1, h2, h3⟩
theorem peek_loop {t fr R f c : Int} {A : List D} {b : Bool} (hR : 0 < R) (hR2 : R ≤ 65535) (hf : 0 ≤ f) (hf2 : f < R) (h0 : 0 ≤ fr) (ht : fr + t ≤ c) (hcR : c ≤ R) (hA : (A.length : Int) = R) : ∀ (k : Nat) (i : Int) (B : List D), 0 ≤ i → t - i = k → (B.length : Int) = t →
    (∀ j, 0 ≤ j → j < i → at' B j = at' A (rd f (fr + j) R)) →
    ∃ B', loopV spPeek [.i fr, .b true, .i 0, .i t, .i t, .i i, .i R, .i f, .i c, .b b, .i 0, .i R, .ls B, .ls A] = some (1, [.b true, .i 0, .i t, .ls B', .i R, .i f, .i c, .b b, .i 0, .i R, .ls A]) ∧ (B'.length : Int) = t ∧
      ∀ j, 0 ≤ j → j < t → at' B' j = at' A (rd f (fr + j) R)
  | 0, i, B, hi, hk, hB, ho => by
    refine ⟨B, loopV_out (j := 0) ?_, hB, fun j hj0 hj => ho j hj0 (by omega)⟩
    show stepPeek fr true 0 t t i R f c b 0 R B A = _
    unfold stepPeek
    extract_lets -merge x0
    rw [if_neg (by show ¬ decide (i < t) = true; simp; omega)]
  | k + 1, i, B, hi, hk, hB, ho => by
    have b8 : 0 ≤ rd f (fr + i) R ∧ rd f (fr + i) R < R := by unfold rd; split <;> omega
    have hs : spPeek [.i fr, .b true, .i 0, .i t, .i t, .i i, .i R, .i f, .i c, .b b, .i 0, .i R, .ls B, .ls A] = some (0, [.i fr, .b true, .i 0, .i t, .i t, .i (i + 1), .i R, .i f, .i c, .b b, .i 0, .i R, .ls (B.set i.toNat (.i (at' A (rd f (fr + i) R)))), .ls A]) := by
      show stepPeek fr true 0 t t i R f c b 0 R B A = _
      unfold stepPeek
      extract_lets -merge x0 x1 x2 x3 x4 x5 x6 x7 x8 x9 x10 x11 x12 x13 x14 x15 x16 x17 x18 x19 x20
      have e3 : x3 = f + (fr + i) := by
        have e2 : x2 = f + fr := w64_in (by omega) (by omega)
        show w64 (x2 + i) = _
        rw [e2, w64_in (by omega) (by omega)]; omega
      have e4 : x4 = rd f (fr + i) R := by
        show Int.tmod x3 R = _
        rw [e3, tmod_rd (by omega) (by omega)]; rfl
      have e8 : x8 = rd f (fr + i) R := by show 0 + x4 = _; rw [e4]; omega
      have e14 : x14 = i := by show 0 + i = i; omega
      have e17 : x17 = i + 1 := w64_in (by omega) (by omega)
      have e20 : x20 = B.set i.toNat (.i (at' A (rd f (fr + i) R))) := by show B.set x14.toNat (.i (at' A x8)) = _; rw [e14, e8]
      rw [if_pos (by show decide (i < t) = true; simp; omega), if_pos (by show (R != 0) = true; simp; omega),
        if_pos (by show (if decide (x4 ≥ 0) = true then decide (x4 < R) else false) = true; rw [e4, if_pos (by simpa using b8.1)]; simpa using b8.2),
        if_pos (by show decide (x8 < (A.length : Int)) = true; rw [e8, hA]; simpa using b8.2),
        if_pos (by show (if decide (i ≥ 0) = true then decide (i < t) else false) = true; rw [if_pos (by simpa using hi)]; simp; omega),
        if_pos (by show decide (x14 < (B.length : Int)) = true; rw [e14, hB]; simp; omega), e17, e20]
    obtain ⟨B', h1, h2, h3⟩ := peek_loop hR hR2 hf hf2 h0 ht hcR hA k (i + 1) (B.set i.toNat (.i (at' A (rd f (fr + i) R)))) (by omega) (by omega) (by simpa using hB) (by
      intro j hj0 hj
      rw [at_set hi hj0 (by omega)]
      by_cases h : j = i
      · subst h; rw [if_pos rfl]
      · rw [if_neg h]; exact ho j hj0 (by omega))
    exact ⟨B', (loopV_again hs).trans h1, h2, h3⟩
theorem same_loop {t : Int} {b1 b2 : Bool} {B O : List D} (ht : t ≤ 65535) (hB : (B.length : Int) = t) (hO : (O.length : Int) = t) (h : ∀ j, 0 ≤ j → j < t → at' B j = at' O j) : ∀ (k : Nat) (i : Int), 0 ≤ i → t - i = k →
    loopV spSame [.b b1, .i 0, .i t, .b b2, .i 0, .i t, .i i, .ls B, .ls O] = some (2, [.ls B, .ls O])
  | 0, i, hi, hk => by
    refine loopV_out (j := 1) ?_
    show stepSame b1 0 t b2 0 t i B O = _
    unfold stepSame
    extract_lets -merge x0
    rw [if_neg (by show ¬ decide (i < t) = true; simp; omega)]
  | k + 1, i, hi, hk => by
    have hs : spSame [.b b1, .i 0, .i t, .b b2, .i 0, .i t, .i i, .ls B, .ls O] = some (0, [.b b1, .i 0, .i t, .b b2, .i 0, .i t, .i (i + 1), .ls B, .ls O]) := by
      show stepSame b1 0 t b2 0 t i B O = _
      unfold stepSame
      extract_lets -merge x0 x1 x2 x3 x4 x5 x6 x7 x8 x9 x10 x11 x12 x13 x14 x15 x16
      have q : decide (i < t) = true := by simp; omega
      have e2 : x2 = true := by show (if decide (i ≥ 0) = true then decide (i < t) else false) = true; rw [if_pos (by simpa using hi)]; exact q
      have e5 : x5 = i := by show 0 + i = i; omega
      have e8 : x8 = i := by show 0 + i = i; omega
      have e16 : x16 = i + 1 := w64_in (by omega) (by omega)
      rw [if_pos (show x0 = true from q), if_pos e2, if_pos (show x4 = true from e2), if_pos (by show decide (x5 < (B.length : Int)) = true; rw [e5, hB]; exact q), if_pos (by show decide (x8 < (O.length : Int)) = true; rw [e8, hO]; exact q),
        if_neg (by show ¬ (at' B x5 != at' O x8) = true; rw [e5, e8, h i hi (by omega)]; simp), e16]
    rw [loopV_again hs]
    exact same_loop ht hB hO h k (i + 1) (by omega) (by omega)
theorem clr_loop {t : Int} {v0 : List D} {v1 : Bool} {v2 : Int} {v3 : Bool} {v7 v8 v9 : Int} {v10 : Bool} {v11 v12 v13 : Int} {v14 : Bool} {v15 v16 : Int} {A L : List D} (ht : t ≤ 65535) : ∀ (k : Nat) (i : Int) (B : List D), 0 ≤ i → t - i = k → (B.length : Int) = t →
    (loopV spClr [.ls v0, .b v1, .i v2, .b v3, .i 0, .i t, .i i, .i v7, .i v8, .i v9, .b v10, .i v11, .i v12, .i v13, .b v14, .i v15, .i v16, .ls B, .ls A, .ls L]).isSome = true
  | 0, i, B, hi, hk, hB => by
    rw [loopV_out (j := 0) (l' := [.ls v0, .b v1, .i v2, .i v7, .i v8, .i v9, .b v10, .i v11, .i v12, .i v13, .b v14, .i v15, .i v16, .ls B, .ls A, .ls L])]
    · rfl
    show stepClr v0 v1 v2 v3 0 t i v7 v8 v9 v10 v11 v12 v13 v14 v15 v16 B A L = _
    unfold stepClr
    extract_lets -merge x0
    rw [if_neg (by show ¬ decide (i < t) = true; simp; omega)]
  | k + 1, i, B, hi, hk, hB => by
    have hs : spClr [.ls v0, .b v1, .i v2, .b v3, .i 0, .i t, .i i, .i v7, .i v8, .i v9, .b v10, .i v11, .i v12, .i v13, .b v14, .i v15, .i v16, .ls B, .ls A, .ls L] = some (0, [.ls v0, .b v1, .i v2, .b v3, .i 0, .i t, .i (i + 1), .i v7, .i v8, .i v9, .b v10, .i v11, .i v12, .i v13, .b v14, .i v15, .i v16, .ls (B.set i.toNat (.i (-99))), .ls A, .ls L]) := by
      show stepClr v0 v1 v2 v3 0 t i v7 v8 v9 v10 v11 v12 v13 v14 v15 v16 B A L = _
      unfold stepClr
      extract_lets -merge x0 x1 x2 x3 x4 x5 x6 x7
      have q : decide (i < t) = true := by simp; omega
      have e2 : x2 = true := by show (if decide (i ≥ 0) = true then decide (i < t) else false) = true; rw [if_pos (by simpa using hi)]; exact q
      have e3 : x3 = i := by show 0 + i = i; omega
      have e6 : x6 = i + 1 := w64_in (by omega) (by omega)
      have e7 : x7 = B.set i.toNat (.i (-99)) := by show B.set x3.toNat _ = _; rw [e3]
      rw [if_pos (show x0 = true from q), if_pos e2, if_pos (by show decide (x3 < (B.length : Int)) = true; rw [e3, hB]; exact q), e6, e7]
    rw [loopV_again hs]
    exact clr_loop ht k (i + 1) _ (by omega) (by omega) (by simpa using hB)
/-- What stays so. -/
structure Inv (l : List D) (i R f c : Int) (nn : Bool) (al : Int) (rn : Bool) (rl : Int) (A L : List D) : Prop where
  i0 : 0 ≤ i
  i1 : i ≤ (l.length : Int)
  ll : (l.length : Int) ≤ 9223372036854775807
  R0 : 0 ≤ R
  R1 : R ≤ 65535
  f0 : 0 ≤ f
  f1 : f < R ∨ f = 0
  c0 : 0 ≤ c
  c1 : c ≤ R
  rl : rl = c
  Ll : (L.length : Int) = c
  nz : nn = false → c = 0
  Al : nn = true → al = R ∧ (A.length : Int) = R
  eq : ∀ j, 0 ≤ j → j < c → at' A (rd f j R) = at' L j
theorem G3 (d : D) : F6 3 d = .b (loopV spPush d.toL).isSome := by kernel_rfl
theorem G5 (d : D) : F6 5 d = .ls (match loopV spPush d.toL with | some (_, ys) => ys | none => []) := by kernel_rfl
theorem G6 (d : D) : F6 6 d = .b (loopV spRPeek d.toL).isSome := by kernel_rfl
theorem G8 (d : D) : F6 8 d = .ls (match loopV spRPeek d.toL with | some (_, ys) => ys | none => []) := by kernel_rfl
theorem G9 (d : D) : F6 9 d = .b (loopV spPeek d.toL).isSome := by kernel_rfl
theorem G11 (d : D) : F6 11 d = .ls (match loopV spPeek d.toL with | some (_, ys) => ys | none => []) := by kernel_rfl
theorem G12 (d : D) : F6 12 d = .b (loopV spSame d.toL).isSome := by kernel_rfl
theorem G13 (d : D) : F6 13 d = .i (match loopV spSame d.toL with | some (j, _) => (j : Int) - 1 | none => 0) := by kernel_rfl
theorem G15 (d : D) : F6 15 d = .b (loopV spClr d.toL).isSome := by kernel_rfl
theorem take_all (L : List D) (c : Int) (h : (L.length : Int) = c) : (L.drop (Int.toNat 0)).take (c.toNat - Int.toNat 0) = L := by
  have : c.toNat - Int.toNat 0 = L.length := by omega
  rw [this]; simp
theorem at_app {L M : List D} {c j : Int} (h : (L.length : Int) = c) (hj : 0 ≤ j) : at' (L ++ M) j = if j < c then at' L j else at' M (j - c) := by
  unfold at'
  rw [List.getD_eq_getElem?_getD]
  split
  · rw [List.getElem?_append_left (by omega), ← List.getD_eq_getElem?_getD]
  · rw [List.getElem?_append_right (by omega), List.getD_eq_getElem?_getD]
    congr 4; omega
theorem at_drop {L : List D} {m j : Int} (hm : 0 ≤ m) (hj : 0 ≤ j) : at' (L.drop m.toNat) j = at' L (m + j) := by
  unfold at'
  rw [List.getD_eq_getElem?_getD, List.getElem?_drop, List.getD_eq_getElem?_getD]
  congr 4; omega
set_option maxHeartbeats 4000000 in
theorem step_in {l : List D} {i R f c : Int} {nn : Bool} {al : Int} {rn : Bool} {rl : Int} {A L : List D} (h : Inv l i R f c nn al rn rl A L) (hi : i < (l.length : Int)) :
    ∃ f' c' nn' al' rn' rl' A' L', spMain [.ls l, .i i, .i R, .i f, .i c, .b nn, .i al, .i R, .b rn, .i rl, .ls A, .ls L] = some (0, [.ls l, .i (i + 1), .i R, .i f', .i c', .b nn', .i al', .i R, .b rn', .i rl', .ls A', .ls L']) ∧ Inv l (i + 1) R f' c' nn' al' rn' rl' A' L' := by
  obtain ⟨i0, i1, ll, R0, R1, f0, f1, c0, c1, hrl, Ll, nz, Al, eq⟩ := h
  subst hrl
  show ∃ f' c' nn' al' rn' rl' A' L', stepMain (F6 3) (F6 5) (F6 9) (F6 6) (F6 8) (F6 12) (F6 11) (F6 13) (F6 15) l i R f rl nn al R rn rl A L = _ ∧ _
  unfold stepMain
  extract_lets -merge x0 x1 x2 x3 x4 x5 x6 x7 x8 x9 x10 x11 x12 x13 x14 x15 x16 x17 x18 x19 x20 x21 x22 x23 x24 x25 x26 x27 x28 x29 x30 x31 x32 x33 x34 x35 x36 x37 x38 x39 x40 x41 x42 x43 x44 x45 x46 x47 x48 x49 x50 x51 x52 x53 x54 x55 x56 x57 x58 x59 x60 x61 x62 x63 x64 x65 x66 x67 x68 x69 x70 x71 x72 x73 x74 x75 x76 x77 x78 x79 x80 x81 x82 x83 x84 x85 x86 x87 x88 x89 x90 x91 x92 x93 x94 x95 x96 x97 x98 x99 x100 x101 x102 x103 x104 x105 x106 x107 x108 x109 x110 x111 x112 x113 x114 x115 x116 x117 x118 x119 x120 x121 x122 x123 x124 x125 x126 x127 x128 x129 x130 x131 x132 x133 x134 x135 x136 x137 x138 x139 x140 x141 x142 x143 x144 x145 x146 x147 x148 x149 x150 x151 x152 x153 x154 x155 x156 x157 x158 x159 x160 x161 x162 x163 x164 x165 x166 x167 x168 x169 x170 x171 x172 x173 x174 x175 x176 x177 x178 x179 x180 x181 x182 x183 x184 x185 x186 x187 x188 x189 x190 x191 x192 x193 x194 x195 x196 x197 x198 x199 x200 x201 x202 x203 x204 x205 x206 x207 x208 x209 x210 x211 x212 x213 x214 x215 x216 x217 x218 x219 x220 x221 x222 x223 x224 x225 x226 x227 x228 x229 x230 x231 x232 x233 x234 x235 x236 x237 x238 x239 x240 x241 x242 x243 x244 x245 x246 x247 x248 x249 x250 x251 x252 x253 x254 x255 x256 x257 x258 x259 x260 x261 x262
  have e1 : x1 = true := decide_eq_true hi
  have e3 : x3 = true := by show (if decide (i ≥ 0) = true then x1 else false) = true; rw [e1, if_pos (by simpa using i0)]
  have e104 : x104 = i + 1 := w64_in (by omega) (by omega)
  have e12 : x12 = R - rl := w64_in (by omega) (by omega)
  have e66 : x66 = R - rl := w64_in (by omega) (by omega)
  have b11 : 0 ≤ x11 := by show 0 ≤ ((x10.length : Nat) : Int); omega
  have e13 : x13 = min x11 (R - rl) := by show zmin x11 x12 = _; rw [zminE, e12]
  have e68 : x68 = x13 := by
    show (if decide (x66 > x11) = true then x11 else x66) = x13
    rw [e13, e66]
    by_cases q : R - rl > x11
    · rw [if_pos (by simpa using q)]; omega
    · rw [if_neg (by simpa using q)]; omega
  have b13 : 0 ≤ x13 ∧ x13 ≤ x11 ∧ x13 ≤ R - rl := by omega
  have e24 : x24 = true := by show (if decide (x13 ≥ 0) = true then decide (x13 ≤ x11) else false) = true; rw [if_pos (by simp; omega)]; simp; omega
  have e71 : x71 = true := by show (if decide (x68 ≥ 0) = true then decide (x68 ≤ x11) else false) = true; rw [e68]; exact e24
  have e18 : x18 = true := by show (if decide (R ≥ 0) = true then decide (R ≤ 1099511627776) else false) = true; rw [if_pos (by simp; omega)]; simp; omega
  have e76 : x76 = L := take_all L rl Ll
  have e77 : x77 = x28 := by show ((x10).drop (Int.toNat 0)).take (Int.toNat x68 - Int.toNat 0) = ((x10).drop (Int.toNat 0)).take (Int.toNat x13 - Int.toNat 0); rw [e68]
  have l28 : (x28.length : Int) = x13 := by
    show ((((x10).drop (Int.toNat 0)).take (Int.toNat x13 - Int.toNat 0)).length : Int) = x13
    rw [List.length_take, List.length_drop]
    have : x11 = (x10.length : Int) := rfl
    omega
  have e29 : x29 = x13 := l28
  have e78 : x78 = L ++ x28 := by show x76 ++ x77 = _; rw [e76, e77]
  have e79 : x79 = rl + x13 := by show ((x78.length : Nat) : Int) = _; rw [e78, List.length_append]; omega
  have e81 : x81 = true := by
    show (if decide (rl ≤ (L.length : Int)) = true then decide (x79 ≤ 1099511627776) else false) = true
    rw [if_pos (by simp; omega), e79]; simp; omega
  have e101 : x101 = R - (rl + x13) := by show w64 (R - x79) = _; rw [e79, w64_in (by omega) (by omega)]
  have pushT : ∀ {b : Bool} {A0 : List D}, 0 < x13 → (A0.length : Int) = R → (∀ j, 0 ≤ j → j < rl → at' A0 (rd f j R) = at' L j) →
      ∃ A', loopV spPush [.i x13, .ls x28, .i x29, .i 0, .i R, .i f, .i rl, .b b, .i 0, .i R, .ls A0] = some (1, [.i x13, .i R, .i f, .i rl, .b b, .i 0, .i R, .ls A']) ∧ (A'.length : Int) = R ∧ ∀ j, 0 ≤ j → j < rl + x13 → at' A' (rd f j R) = at' x78 j := by
    intro b A0 hp hA0 heq
    obtain ⟨A', h1, h2, h3⟩ := push_loop (n := x29) (R := R) (f := f) (c := rl) (v0 := x13) (b := b) (items := x28) (by omega) R1 f0 (by omega) c0 (by omega) (by omega) x13.toNat 0 A0 (by omega) (by omega) hA0
    refine ⟨A', h1, h2, fun j hj0 hj => ?_⟩
    rw [h3 j hj0 (by omega), e78, at_app Ll hj0]
    by_cases q : j < rl
    · rw [if_pos (by omega), if_pos q]; exact heq j hj0 q
    · rw [if_neg (by omega), if_neg q]
  by_cases q8 : x8 = true
  · -- Push
    by_cases q14 : x14 = true
    · have h0 : x13 = 0 := by have : x13 ≤ 0 := of_decide_eq_true q14; omega
      have t19 : x20 = true ∧ x26 = true ∧ x45 = true ∧ x48 = true ∧ x64 = true ∧ x85 = true ∧ x88 = true ∧ x91 = true ∧ x94 = true := ⟨if_pos q14, if_pos q14, if_pos q14, if_pos q14, if_pos q14, if_pos q14, if_pos q14, if_pos q14, if_pos q14⟩
      obtain ⟨t1, t2, t3, t4, t5, t6, t7, t8, t9⟩ := t19
      have t72 : x72 = true := (if_pos q14).trans e71
      have t82 : x82 = true := (if_pos q14).trans e81
      have sel : ∀ {b b' : Bool}, b' = true → (if x8 = true then b' else true) = true := by intro b b' hb; rw [if_pos q8]; exact hb
      rw [if_pos e1, if_pos e3, if_pos ((if_pos q8).trans t1), if_pos ((if_pos q8).trans t2), if_pos ((if_pos q8).trans t3), if_pos ((if_pos q8).trans t4), if_pos ((if_pos q8).trans t5), if_pos ((if_pos q8).trans t72), if_pos ((if_pos q8).trans t82),
        if_pos ((if_pos q8).trans t6), if_pos ((if_pos q8).trans t7), if_pos ((if_pos q8).trans t8), if_pos ((if_pos q8).trans t9), if_pos q8, if_pos q14,
        if_neg (by show ¬ ((0 : Int) != x68) = true; rw [e68, h0]; simp),
        if_neg (by show ¬ (if (rl != x79) = true then true else (x12 != x101)) = true; rw [e79, h0, e12, e101, h0]; simp), e104, e79, h0]
      have hl28 : x28 = [] := List.eq_nil_of_length_eq_zero (by omega)
      have h78 : x78 = L := by rw [e78, hl28]; simp
      rw [h78]
      exact ⟨_, _, _, _, _, _, _, _, rfl, ⟨by omega, by omega, ll, R0, R1, f0, f1, c0, c1, by omega, by omega, nz, Al, eq⟩⟩
    · have hp : 0 < x13 := by
        have : ¬ x13 ≤ 0 := fun hh => q14 (decide_eq_true hh)
        omega
      have e106 : x106 = rl + x13 := w64_in (by omega) (by omega)
      have e112 : x112 = R - (rl + x13) := by show w64 (R - x106) = _; rw [e106, w64_in (by omega) (by omega)]
      have e114 : ¬ x114 = true := by show ¬ (if (x106 != x79) = true then true else (x112 != x101)) = true; rw [e106, e79, e112, e101]; simp
      have e105 : ¬ x105 = true := by show ¬ (x13 != x68) = true; rw [e68]; simp
      have t72 : x72 = true := if_neg q14
      have t82 : x82 = true := if_neg q14
      cases hnn : nn with
      | false =>
        have c00 : rl = 0 := nz hnn
        have e15 : x15 = true := by show (!nn) = true; rw [hnn]; rfl
        obtain ⟨A', p1, p2, p3⟩ := pushT (b := true) (A0 := x30) hp (by show ((List.replicate R.toNat (D.i 0)).length : Int) = R; simp; omega) (by intro j hj0 hj; omega)
        have p1 : loopV spPush x41 = some (1, [.i x13, .i R, .i f, .i rl, .b true, .i 0, .i R, .ls A']) := p1
        have e43 : x43 = true := by show (F6 3 (D.ls x41)).toB = true; rw [G3, show (D.ls x41).toL = x41 from rfl, p1]; rfl
        have e110 : x110 = A' := by show (((F6 5 (D.ls x41)).toL).getD 7 (.i 0)).toL = A'; rw [G5, show (D.ls x41).toL = x41 from rfl, p1]; rfl
        rw [if_pos e1, if_pos e3, if_pos ((if_pos q8).trans ((if_neg q14).trans ((if_pos e15).trans e18))), if_pos ((if_pos q8).trans ((if_neg q14).trans ((if_pos e15).trans e24))), if_pos ((if_pos q8).trans ((if_neg q14).trans ((if_pos e15).trans e43))),
          if_pos ((if_pos q8).trans ((if_neg q14).trans (if_pos e15))), if_pos ((if_pos q8).trans ((if_neg q14).trans (if_pos e15))), if_pos ((if_pos q8).trans t72), if_pos ((if_pos q8).trans t82),
          if_pos ((if_pos q8).trans ((if_neg q14).trans ((if_pos e15).trans e71))), if_pos ((if_pos q8).trans ((if_neg q14).trans ((if_pos e15).trans e81))), if_pos ((if_pos q8).trans ((if_neg q14).trans (if_pos e15))), if_pos ((if_pos q8).trans ((if_neg q14).trans (if_pos e15))), if_pos q8, if_neg q14, if_pos e15, if_neg e105, if_neg e114, e104, e106, e79, e110]
        exact ⟨_, _, _, _, _, _, _, _, rfl, ⟨by omega, by omega, ll, R0, R1, f0, by omega, by omega, by omega, rfl, (by rw [e78, List.length_append]; omega), (fun hh => by simp at hh), fun _ => ⟨rfl, p2⟩, p3⟩⟩
      | true =>
        have e15 : ¬ x15 = true := by show ¬ (!nn) = true; rw [hnn]; decide
        obtain ⟨hal, hAl⟩ := Al hnn
        subst hal
        obtain ⟨A', p1, p2, p3⟩ := pushT (b := nn) (A0 := A) hp hAl eq
        have p1 : loopV spPush x60 = some (1, [.i x13, .i al, .i f, .i rl, .b nn, .i 0, .i al, .ls A']) := p1
        have e62 : x62 = true := by show (F6 3 (D.ls x60)).toB = true; rw [G3, show (D.ls x60).toL = x60 from rfl, p1]; rfl
        have e118 : x118 = A' := by show (((F6 5 (D.ls x60)).toL).getD 7 (.i 0)).toL = A'; rw [G5, show (D.ls x60).toL = x60 from rfl, p1]; rfl
        rw [if_pos e1, if_pos e3, if_pos ((if_pos q8).trans ((if_neg q14).trans (if_neg e15))), if_pos ((if_pos q8).trans ((if_neg q14).trans (if_neg e15))), if_pos ((if_pos q8).trans ((if_neg q14).trans (if_neg e15))),
          if_pos ((if_pos q8).trans ((if_neg q14).trans ((if_neg e15).trans e24))), if_pos ((if_pos q8).trans ((if_neg q14).trans ((if_neg e15).trans e62))), if_pos ((if_pos q8).trans t72), if_pos ((if_pos q8).trans t82),
          if_pos ((if_pos q8).trans ((if_neg q14).trans (if_neg e15))), if_pos ((if_pos q8).trans ((if_neg q14).trans (if_neg e15))), if_pos ((if_pos q8).trans ((if_neg q14).trans ((if_neg e15).trans e71))), if_pos ((if_pos q8).trans ((if_neg q14).trans ((if_neg e15).trans e81))), if_pos q8, if_neg q14, if_neg e15, if_neg e105, if_neg e114, e104, e106, e79, e118]
        exact ⟨_, _, _, _, _, _, _, _, rfl, ⟨by omega, by omega, ll, R0, R1, f0, by omega, by omega, by omega, rfl, (by rw [e78, List.length_append]; omega), (fun hh => by simp at hh), fun _ => ⟨rfl, p2⟩, p3⟩⟩
  rw [if_pos e1, if_pos e3, if_pos (if_neg q8), if_pos (if_neg q8), if_pos (if_neg q8), if_pos (if_neg q8), if_pos (if_neg q8), if_pos (if_neg q8), if_pos (if_neg q8), if_pos (if_neg q8), if_pos (if_neg q8), if_pos (if_neg q8), if_pos (if_neg q8), if_neg q8]
  have e179 : ¬ x179 = true := by show ¬ (if (rl != rl) = true then true else (x12 != x66)) = true; rw [e12, e66]; simp
  by_cases q121 : x121 = true
  · -- Peek
    by_cases q130 : x130 = true
    · have hcase : x123 < 0 ∨ x126 ≤ 0 ∨ rl ≤ x123 := by
        by_cases r1 : x123 < 0
        · exact .inl r1
        · by_cases r2 : x126 ≤ 0
          · exact .inr (.inl r2)
          · right; right
            have hx : (if decide (x123 < 0) = true then true else if decide (x126 ≤ 0) = true then true else decide (x123 ≥ rl)) = true := q130
            rw [if_neg (by simpa using r1), if_neg (by simpa using r2)] at hx
            simpa using hx
      have hr : loopV spRPeek x165 = some (1, [.b false, .i 0, .ls [], .i R, .b rn, .i 0, .i rl, .ls L]) := rpeek_none (n := x126) (fr := x123) (v4 := R) (v5 := rn) (v7 := rl) (L := L) hcase
      have e167 : x167 = true := by show (F6 6 (D.ls x165)).toB = true; rw [G6, show (D.ls x165).toL = x165 from rfl, hr]; rfl
      have e173 : x173 = 0 := by show (((F6 8 (D.ls x165)).toL).getD 1 (.i 0)).toI = 0; rw [G8, show (D.ls x165).toL = x165 from rfl, hr]; rfl
      have e176 : ¬ x176 = true := by
        have e174 : x174 = false := by show ((0 : Int) != x173) = false; rw [e173]; rfl
        show ¬ (!(if x174 = true then false else true)) = true
        rw [e174]; decide
      rw [if_pos ((if_pos q121).trans (if_pos q130)), if_pos ((if_pos q121).trans (if_pos q130)), if_pos ((if_pos q121).trans ((if_pos q130).trans e167)), if_pos q121, if_pos q130, if_neg e176, if_neg e179, e104]
      exact ⟨_, _, _, _, _, _, _, _, rfl, ⟨by omega, by omega, ll, R0, R1, f0, f1, c0, c1, rfl, Ll, nz, Al, eq⟩⟩
    · obtain ⟨g1, g2, g3⟩ : 0 ≤ x123 ∧ 0 < x126 ∧ x123 < rl := by
        have hx : ¬ (if decide (x123 < 0) = true then true else if decide (x126 ≤ 0) = true then true else decide (x123 ≥ rl)) = true := q130
        by_cases r1 : x123 < 0
        · rw [if_pos (by simpa using r1)] at hx; exact absurd rfl hx
        · rw [if_neg (by simpa using r1)] at hx
          by_cases r2 : x126 ≤ 0
          · rw [if_pos (by simpa using r2)] at hx; exact absurd rfl hx
          · rw [if_neg (by simpa using r2)] at hx
            simp at hx
            exact ⟨by omega, by omega, by omega⟩
      have hnn : nn = true := by cases hn : nn with | true => rfl | false => have := nz hn; omega
      obtain ⟨hal, hAl⟩ := Al hnn
      subst hal
      have e132 : x132 = min x126 (rl - x123) := by show zmin x126 (w64 (rl - x123)) = _; rw [zminE, w64_in (by omega) (by omega)]
      have b132 : 0 < x132 ∧ x132 ≤ rl - x123 := by omega
      obtain ⟨B, p1, p2, p3⟩ := peek_loop (t := x132) (fr := x123) (R := al) (f := f) (c := rl) (A := A) (b := nn) (by omega) R1 f0 (by omega) g1 (by omega) c1 hAl x132.toNat 0 x138 (by omega) (by omega) (by show ((List.replicate x132.toNat (D.i 0)).length : Int) = x132; simp; omega) (by intro j hj0 hj; omega)
      have p1 : loopV spPeek x151 = some (1, [.b true, .i 0, .i x132, .ls B, .i al, .i f, .i rl, .b nn, .i 0, .i al, .ls A]) := p1
      obtain ⟨nn', O, r1, r2, r3⟩ := rpeek_loop (n := x126) (fr := x123) (L := L) (v4 := al) (v5 := rn) g1 (by omega) (t := x132) (by rw [e132, Ll]) x132.toNat 0 [] false rfl (by omega) (by intro j hj0 hj; omega)
      have r1 : loopV spRPeek x165 = some (1, [.b nn', .i x132, .ls O, .i al, .b rn, .i 0, .i rl, .ls L]) := by
        rw [Ll, show x123 + 0 = x123 by omega] at r1
        exact r1
      have e153 : x153 = true := by show (F6 9 (D.ls x151)).toB = true; rw [G9, show (D.ls x151).toL = x151 from rfl, p1]; rfl
      have e167 : x167 = true := by show (F6 6 (D.ls x165)).toB = true; rw [G6, show (D.ls x165).toL = x165 from rfl, r1]; rfl
      have e171 : x171 = [.b nn', .i x132, .ls O, .i al, .b rn, .i 0, .i rl, .ls L] := by show (F6 8 (D.ls x165)).toL = _; rw [G8, show (D.ls x165).toL = x165 from rfl, r1]; rfl
      have e173 : x173 = x132 := by show (x171.getD 1 (.i 0)).toI = _; rw [e171]; rfl
      have e182 : x182 = nn' := by show (x171.getD 0 (.i 0)).toB = _; rw [e171]; rfl
      have e188 : x188 = O := by show (x171.getD 2 (.i 0)).toL = _; rw [e171]; rfl
      have e186 : x186 = B := by show (((F6 11 (D.ls x151)).toL).getD 3 (.i 0)).toL = _; rw [G11, show (D.ls x151).toL = x151 from rfl, p1]; rfl
      have e180 : ¬ x180 = true := by show ¬ (x132 != x173) = true; rw [e173]; simp
      have hsame : loopV spSame x197 = some (2, [.ls B, .ls O]) := by
        show loopV spSame [.b true, .i 0, .i x132, .b x182, .i 0, .i x173, .i 0, .ls x186, .ls x188] = _
        rw [e182, e173, e186, e188]
        refine same_loop (by omega) p2 r2 (fun j hj0 hj => ?_) x132.toNat 0 (by omega) (by omega)
        rw [p3 j hj0 hj, r3 j hj0 hj]
        exact eq (x123 + j) (by omega) (by omega)
      have e199 : x199 = true := by show (F6 12 (D.ls x197)).toB = true; rw [G12, show (D.ls x197).toL = x197 from rfl, hsame]; rfl
      have e202 : x202 = 1 := by show (F6 13 (D.ls x197)).toI = 1; rw [G13, show (D.ls x197).toL = x197 from rfl, hsame]; rfl
      have e206 : ¬ x206 = true := by
        have e203 : x203 = false := by show (x202 == 0) = false; rw [e202]; rfl
        show ¬ (!(if x180 = true then false else if x203 = true then false else true)) = true
        rw [if_neg e180, e203]; decide
      have e207 : x207 = B := (if_neg e180).trans e186
      have e228 : x228 = true := by
        show (F6 15 (D.ls x226)).toB = true
        rw [G15]
        show (loopV spClr [.ls l, .b true, .i i, .b true, .i 0, .i x132, .i 0, .i al, .i f, .i rl, .b nn, .i 0, .i al, .i al, .b rn, .i 0, .i rl, .ls x207, .ls A, .ls L]).isSome = true
        rw [e207]
        exact clr_loop (by omega) x132.toNat 0 B (by omega) (by omega) p2
      have e135 : x135 = true := by show (if decide (x132 ≥ 0) = true then decide (x132 ≤ 1099511627776) else false) = true; rw [if_pos (by simp; omega)]; simp; omega
      rw [if_pos ((if_pos q121).trans ((if_neg q130).trans e135)), if_pos ((if_pos q121).trans ((if_neg q130).trans e153)), if_pos ((if_pos q121).trans (if_neg q130)), if_pos q121, if_neg q130, if_pos e167, if_pos ((if_neg e180).trans e199), if_pos ((if_neg e206).trans e228), if_neg e206, if_neg e179, e104]
      exact ⟨_, _, _, _, _, _, _, _, rfl, ⟨by omega, by omega, ll, R0, R1, f0, f1, c0, c1, rfl, Ll, nz, Al, eq⟩⟩
  · -- Drop
    have e231 : x231 = min (max x123 0) rl := by show zmin (zmax x123 0) rl = _; rw [zminE, zmaxE]
    have e235 : x235 = max x123 0 := by
      show (if decide (x123 < 0) = true then 0 else x123) = _
      by_cases q : x123 < 0
      · rw [if_pos (by simpa using q)]; omega
      · rw [if_neg (by simpa using q)]; omega
    have e237 : x237 = x231 := by
      show (if decide (x235 > rl) = true then rl else x235) = _
      rw [e235, e231]
      by_cases q : max x123 0 > rl
      · rw [if_pos (by simpa using q)]; omega
      · rw [if_neg (by simpa using q)]; omega
    have b231 : 0 ≤ x231 ∧ x231 ≤ rl := by omega
    have e242 : x242 = rl := by show x237 + (rl - x237) = rl; omega
    have e240 : x240 = true := by show (if decide (x237 ≥ 0) = true then decide (x237 ≤ rl) else false) = true; rw [e237, if_pos (by simp; omega)]; simp; omega
    have e244 : x244 = L.drop x231.toNat := by
      show (L.drop x237.toNat).take (x242.toNat - x237.toNat) = _
      rw [e237, e242]
      apply List.take_of_length_le
      rw [List.length_drop]; omega
    have e245 : x245 = L.drop x231.toNat := by show [] ++ x244 = _; rw [e244]; rfl
    have l245 : (x245.length : Int) = rl - x231 := by rw [e245, List.length_drop]; omega
    have e246 : x246 = rl - x231 := l245
    have e248 : x248 = true := by
      show (if decide (x242 ≤ (L.length : Int)) = true then decide (x246 ≤ 1099511627776) else false) = true
      rw [e242, if_pos (by simp; omega), e246]; simp; omega
    have e255 : x255 = rl - x231 := by
      show (if x232 = true then rl else x254) = _
      by_cases q : x231 = 0
      · rw [if_pos (show (x231 == 0) = true by rw [q]; rfl)]; omega
      · rw [if_neg (show ¬ (x231 == 0) = true by simpa using q)]; exact w64_in (by omega) (by omega)
    have e249 : x249 = x231 := by
      show (if x232 = true then 0 else x231) = _
      by_cases q : x231 = 0
      · rw [if_pos (show (x231 == 0) = true by rw [q]; rfl), q]
      · rw [if_neg (show ¬ (x231 == 0) = true by simpa using q)]
    have e250 : ¬ x250 = true := by show ¬ (x249 != x237) = true; rw [e249, e237]; simp
    have e262 : ¬ x262 = true := by
      show ¬ (if (x255 != x246) = true then true else (w64 (R - x255) != w64 (R - x246))) = true
      rw [e255, e246]; simp
    have e234 : x234 = true := by
      show (if x232 = true then true else (R != 0)) = true
      by_cases q : x231 = 0
      · rw [if_pos (show (x231 == 0) = true by rw [q]; rfl)]
      · rw [if_neg (show ¬ (x231 == 0) = true by simpa using q)]; simp; omega
    rw [if_pos (if_neg q121), if_pos (if_neg q121), if_pos (if_neg q121), if_neg q121, if_pos e234, if_pos e240, if_pos e248, if_neg e250, if_neg e262, e104, e255, e246, e245]
    by_cases q : x231 = 0
    · have e253 : x253 = f := if_pos (show (x231 == 0) = true by rw [q]; rfl)
      rw [e253]
      exact ⟨_, _, _, _, _, _, _, _, rfl, ⟨by omega, by omega, ll, R0, R1, f0, f1, by omega, by omega, rfl, by rw [List.length_drop]; omega, fun hh => by have := nz hh; omega, Al, fun j hj0 hj => by rw [at_drop b231.1 hj0, q, show (0 : Int) + j = j by omega]; exact eq j hj0 (by omega)⟩⟩
    · have e251 : x251 = f + x231 := w64_in (by omega) (by omega)
      have e253 : x253 = rd f x231 R := by
        have e252 : x252 = rd f x231 R := by show Int.tmod x251 R = _; rw [e251, tmod_rd (by omega) (by omega)]; rfl
        exact (if_neg (show ¬ (x231 == 0) = true by simpa using q)).trans e252
      rw [e253]
      have hrd : 0 ≤ rd f x231 R ∧ rd f x231 R < R := by unfold rd; split <;> omega
      exact ⟨_, _, _, _, _, _, _, _, rfl, ⟨by omega, by omega, ll, R0, R1, hrd.1, .inl hrd.2, by omega, by omega, rfl, by rw [List.length_drop]; omega, fun hh => by have := nz hh; omega, Al, fun j hj0 hj => by
        rw [at_drop b231.1 hj0, ← eq (x231 + j) (by omega) (by omega)]
        congr 1
        unfold rd; split <;> split <;> (try split) <;> omega⟩⟩
theorem step_out {l : List D} {i R f c : Int} {nn : Bool} {al : Int} {rn : Bool} {rl : Int} {A L : List D} (hi : ¬ i < (l.length : Int)) :
    spMain [.ls l, .i i, .i R, .i f, .i c, .b nn, .i al, .i R, .b rn, .i rl, .ls A, .ls L] = some (2, [.i R, .i f, .i c, .b nn, .i al, .i R, .b rn, .i rl, .ls A, .ls L]) := by
  show stepMain (F6 3) (F6 5) (F6 9) (F6 6) (F6 8) (F6 12) (F6 11) (F6 13) (F6 15) l i R f c nn al R rn rl A L = _
  unfold stepMain
  extract_lets -merge x0 x1
  rw [if_neg (by show ¬ decide (i < (l.length : Int)) = true; simpa using hi)]
theorem loop_in : ∀ (d : Nat) {l : List D} {i R f c : Int} {nn : Bool} {al : Int} {rn : Bool} {rl : Int} {A L : List D}, Inv l i R f c nn al rn rl A L → (l.length : Int) - i = d →
    ∃ i' f' c' nn' al' rn' rl' A' L', loopV spMain [.ls l, .i i, .i R, .i f, .i c, .b nn, .i al, .i R, .b rn, .i rl, .ls A, .ls L] = some (2, [.i R, .i f', .i c', .b nn', .i al', .i R, .b rn', .i rl', .ls A', .ls L']) ∧ Inv l i' R f' c' nn' al' rn' rl' A' L'
  | 0, l, i, R, f, c, nn, al, rn, rl, A, L, h, hd => ⟨i, f, c, nn, al, rn, rl, A, L, loopV_out (j := 1) (step_out (by omega)), h⟩
  | d + 1, l, i, R, f, c, nn, al, rn, rl, A, L, h, hd => by
    obtain ⟨f', c', nn', al', rn', rl', A', L', hs, hI⟩ := step_in h (by omega)
    obtain ⟨i2, f2, c2, nn2, al2, rn2, rl2, A2, L2, h1, h2⟩ := loop_in d hI (by omega)
    exact ⟨i2, f2, c2, nn2, al2, rn2, rl2, A2, L2, (loopV_again hs).trans h1, h2⟩
theorem keepEq (a lo hi : Int) (h : lo ≤ hi) : (if decide (a < lo) = true then lo else if decide (a > hi) = true then hi else a) = zmin (zmax a lo) hi ∧ lo ≤ zmin (zmax a lo) hi ∧ zmin (zmax a lo) hi ≤ hi := by
  simp only [decide_eq_true_eq]
  rw [zminE, zmaxE]
  by_cases h1 : a < lo
  · rw [if_pos h1]; omega
  · rw [if_neg h1]
    by_cases h2 : a > hi
    · rw [if_pos h2]; omega
    · rw [if_neg h2]; omega
set_option maxHeartbeats 1000000 in
theorem pure (a0 : Int) (a1 : List D) (b0 : -9223372036854775808 ≤ a0 ∧ a0 ≤ 9223372036854775807) (b1 : InC (.sl (.row [(.int .i64), (.int .i64), (.int .i64), (.sl (.one (.int .i64)))])) (.ls a1)) : val F7 a0 a1 = true := by
  have hlen : (a1.length : Int) ≤ 9223372036854775807 := by simp only [InC, toL_ls] at b1; exact b1.1
  unfold val
  extract_lets -merge x0 x1 x2 x3 x4 x5 x6 x7 x8 x9 x10 x11 x12 x13 x14 x15 x16 x17 x18 x19 x20 x21 x22 x23 x24 x25 x26 x27 x28 x29 x30 x31 x32 x33 x34 x35 x36 x37 x38 x39 x40 x41 x42 x43 x44 x45 x46 x47 x48 x49 x50 x51 x52 x53 x54 x55 x56 x57 x58 x59 x60 x61 x62 x63 x64 x65 x66 x67 x68 x69 x70 x71 x72 x73 x74 x75 x76 x77 x78 x79 x80 x81 x82 x83 x84 x85 x86 x87 x88 x89 x90 x91 x92 x93
  have e1 : x1 = true := by show D.toB (F7 0 (D.ls [])) = true; rw [F_0]; rfl
  obtain ⟨k1, k2, k3⟩ := keepEq a0 0 65535 (by omega)
  have e7 : x7 = x3 := k1
  have b3 : 0 ≤ x3 ∧ x3 ≤ 65535 := ⟨k2, k3⟩
  obtain ⟨i', f, c, nn, al, rn, rl, A, L, hL, hI⟩ := loop_in a1.length (l := a1) (i := 0) (R := x3) (f := 0) (c := 0) (nn := false) (al := 0) (rn := false) (rl := 0) (A := []) (L := [])
    ⟨by omega, by omega, hlen, b3.1, b3.2, by omega, .inr rfl, by omega, by omega, rfl, rfl, fun _ => rfl, (fun hh => by simp at hh), fun j hj0 hj => by omega⟩ (by omega)
  have hL : loopV spMain x15 = some (2, [.i x3, .i f, .i c, .b nn, .i al, .i x3, .b rn, .i rl, .ls A, .ls L]) := by
    show loopV spMain [.ls a1, .i 0, .i x3, .i 0, .i 0, .b false, .i 0, .i x7, .b false, .i 0, .ls [], .ls []] = _
    rw [e7]; exact hL
  have e17 : x17 = true := by show D.toB (F7 18 (D.ls x15)) = true; rw [F_18, show (D.ls x15).toL = x15 from rfl, hL]; rfl
  have e20 : x20 = false := by show (D.toI (F7 19 (D.ls x15)) == 0) = false; rw [F_19, show (D.ls x15).toL = x15 from rfl, hL]; rfl
  have e22 : x22 = [.i x3, .i f, .i c, .b nn, .i al, .i x3, .b rn, .i rl, .ls A, .ls L] := by show D.toL (F7 20 (D.ls x15)) = _; rw [F_20, show (D.ls x15).toL = x15 from rfl, hL]; rfl
  obtain ⟨i0, i1, ll, R0, R1, f0, f1, c0, c1, hrl, Ll, nz, Al, eq⟩ := hI
  subst hrl
  have e23 : D.toI x23 = rl := by show (x22.getD 2 (.i 0)).toI = rl; rw [e22]; rfl
  have e61 : x61 = rl := by show (x22.getD 7 (.i 0)).toI = rl; rw [e22]; rfl
  have e26 : x26 = rl := by
    show zmin 70000 (w64 (D.toI x23 - 0)) = rl
    rw [e23, w64_in (by omega) (by omega), zminE]; omega
  have e29 : x29 = true := by show (if decide (x26 ≥ 0) = true then decide (x26 ≤ 1099511627776) else false) = true; rw [e26, if_pos (by simp; omega)]; simp; omega
  have e31 : x31 = true := by show (if x20 = true then true else if x24 = true then true else x29) = true; rw [e20, e29]; simp
  have fin : ∀ (q57 q81 q92 : Bool), (x24 = false → x57 = q57) → q57 = true → (x24 = false → x81 = q81) → q81 = true → (if x24 = true then x86 else if x62 = true then false else x90) = true → (x1 && (x17 && (x31 && (x59 && (x84 && x93))))) = true := by
    intro q57 q81 q92 h1 h2 h3 h4 h5
    show (x1 && (x17 && (x31 && ((if x20 = true then true else if x24 = true then true else x57) && ((if x20 = true then true else if x24 = true then true else if x62 = true then true else x81) && (if x20 = true then false else if x24 = true then x86 else if x62 = true then false else x90)))))) = true
    rw [e1, e17, e31, e20, h5]
    cases h24 : x24 with
    | true => simp
    | false => rw [h1 h24, h2, h3 h24, h4]; simp
  by_cases q : rl = 0
  · have e24 : x24 = true := by show decide ((0 : Int) ≥ D.toI x23) = true; rw [e23, q]; rfl
    refine fin true true true (fun hh => by rw [e24] at hh; cases hh) rfl (fun hh => by rw [e24] at hh; cases hh) rfl ?_
    rw [if_pos e24]
    show (if ((0 : Int) != x61) = true then false else true) = true
    rw [e61, q]; rfl
  · have e24 : ¬ x24 = true := by show ¬ decide ((0 : Int) ≥ D.toI x23) = true; rw [e23]; simp; omega
    have hnn : nn = true := by cases hn : nn with | true => rfl | false => have := nz hn; omega
    obtain ⟨hal, hAl⟩ := Al hnn
    obtain ⟨B, p1, p2, p3⟩ := peek_loop (t := rl) (fr := 0) (R := x3) (f := f) (c := rl) (A := A) (b := nn) (by omega) R1 f0 (by omega) (by omega) (by omega) c1 hAl rl.toNat 0 x39 (by omega) (by omega) (by show ((List.replicate x26.toNat (D.i 0)).length : Int) = rl; rw [e26]; simp; omega) (by intro j hj0 hj; omega)
    have p1 : loopV spPeek x55 = some (1, [.b true, .i 0, .i rl, .ls B, .i x3, .i f, .i rl, .b nn, .i 0, .i x3, .ls A]) := by
      have e33 : x33 = f := by show (x22.getD 1 (.i 0)).toI = f; rw [e22]; rfl
      have e36 : x36 = nn := by show (x22.getD 3 (.i 0)).toB = nn; rw [e22]; rfl
      have e38 : x38 = x3 := by show (x22.getD 4 (.i 0)).toI = x3; rw [e22]; exact hal
      have e41 : x41 = A := by show (x22.getD 8 (.i 0)).toL = A; rw [e22]; rfl
      show loopV spPeek [.i 0, .b true, .i 0, .i x26, .i x26, .i 0, .i x3, .i x33, .i (D.toI x23), .b x36, .i 0, .i x38, .ls x39, .ls x41] = _
      rw [e26, e33, e23, e36, e38, e41]; exact p1
    have e57 : x57 = true := by show D.toB (F7 9 (D.ls x55)) = true; rw [F_9, show (D.ls x55).toL = x55 from rfl, p1]; rfl
    have e68 : x68 = B := by show ((D.toL (F7 11 (D.ls x55))).getD 3 (.i 0)).toL = B; rw [F_11, show (D.ls x55).toL = x55 from rfl, p1]; rfl
    have e70 : x70 = L := by show (x22.getD 9 (.i 0)).toL = L; rw [e22]; rfl
    have hsame : loopV spSame x79 = some (2, [.ls B, .ls L]) := by
      show loopV spSame [.b true, .i 0, .i x26, .b x64, .i 0, .i x61, .i 0, .ls x68, .ls x70] = _
      rw [e26, e61, e68, e70]
      refine same_loop (by omega) p2 Ll (fun j hj0 hj => ?_) rl.toNat 0 (by omega) (by omega)
      rw [p3 j hj0 hj, show (0 : Int) + j = j by omega]
      exact eq j hj0 hj
    have e81 : x81 = true := by show D.toB (F7 12 (D.ls x79)) = true; rw [F_12, show (D.ls x79).toL = x79 from rfl, hsame]; rfl
    have e90 : x90 = true := by
      show (if (D.toI (F7 13 (D.ls x79)) == 0) = true then false else true) = true
      rw [F_13, show (D.ls x79).toL = x79 from rfl, hsame]; rfl
    refine fin true true true (fun _ => e57) rfl (fun _ => e81) rfl ?_
    rw [if_neg e24, if_neg (by show ¬ (x26 != x61) = true; rw [e26, e61]; simp)]
    exact e90

theorem own : ownKnob Try.prog.godebug = none := by kernel_rfl
set_option maxRecDepth 100000 in
theorem lifted (os : Os) (started : os.Started) (H : Type) (enc : TypeId × Value → H) :
    ReturnsInHanded {} Try.checked os 5 .any (Rows.seqRingsSpec.pre6 enc Try.prog Try.f5 Rows.seqRingsRow.domain false) (Rows.seqRingsSpec.post enc Try.prog Try.f5 false true false false) := by
  refine returnsInHanded_of_change (C := Try.checked) own started (by kernel_rfl) Try.func5
    (ChangeSpec.witness6 (enc := enc) (C := Try.checked) false ⟨#[], #[.int .i64 0, .slice none 0 0], []⟩ 8 (by kernel_rfl) (by kernel_rfl) (by kernel_rfl) (by kernel_rfl)) ?_
  intro W base args ds gs before hval0 hW hcnd _
  have hval : ∀ (j : Nat) t v, Try.f5.params[j]? = some t → args[j]? = some v → Value.okWide Try.prog W .any base t v := hval0
  have hW' := hW
  obtain ⟨p, q, hA0, hV, rfl, hfz, hnd⟩ := hW
  have hA : DataW.TrodAll enc Try.prog W 0 (fun _ => true) true Try.f5.params.toList args.toList ds p := hA0
  rw [Try.params5] at hA hval
  obtain ⟨v0, vs0, d0, ds0, p0, q0, hargs, rfl, rfl, h0, r0⟩ := trodAll_cons hA
  obtain ⟨v1, vs1, d1, ds1, p1, q1, rfl, rfl, rfl, h1, r1⟩ := trodAll_cons r0
  obtain ⟨rfl, rfl, rfl⟩ := trodAll_nil r1
  obtain rfl : args = #[v0, v1] := by cases args; simp_all
  obtain ⟨rfl, rfl⟩ := trodVars_none hV
  obtain ⟨a0, rfl, c0⟩ := argWide_int Try.underlying3 (hval 0 3 v0 rfl rfl)
  have b0 := has_i64 c0
  have hv1 := argWide_slice Try.underlying29 (hval 1 29 v1 rfl rfl)
  obtain ⟨a1, ro1, b1⟩ := arg_rsl (et := (.row [(.int .i64), (.int .i64), (.int .i64), (.sl (.one (.int .i64)))])) (by kernel_rfl) h1 hv1
  generalize v1 = sv1 at *
  refine (law_walkF (P := Try.prog) Try.checked.mixed (n := 1000) (f := 5) (args := symArgs) (F := F7) (R := blocksOf W) (l := [.i a0, .ls a1]) (Z := z7) (Ω := Om.none) (w := W) good7 (blocksOf_ok W) (by rw [run]; exact pure a0 a1 b0 b1) (vs := [.int .i64 a0, sv1]) (Rels.cons (rel_int rfl) (Rels.cons (rel_rsl ro1 rfl) (Rels.nil)))).mono fun e W' ⟨he, hb⟩ => ?_
  subst he
  exact ⟨_, rfl, law_post (by kernel_rfl) (by rw [Try.params5]; intro t ht; simp at ht; rcases ht with rfl | rfl <;> exact ⟨by kernel_rfl, of_decide_eq_true (by kernel_rfl)⟩) (by kernel_rfl) Try.underlying4 rfl ⟨rfl, rfl, rfl⟩ hW' hb⟩

theorem over : Rows.seqRingsRow.holds Try.pinned (OpenSpec.ofChange Rows.seqRingsSpec) :=
  OpenClaim.holds_of_wide 5 Try.f5 rfl rfl rfl rfl rfl rfl rfl ⟨rfl, rfl, rfl, rfl, rfl⟩ rfl rfl rfl rfl rfl (by kernel_rfl) Try.func5 (by kernel_rfl)
    (of_decide_eq_true (by kernel_rfl)) (by unfold Func.isWrapper; first | (rw [if_pos (by decide +kernel)]; kernel_rfl) | (rw [if_neg (by decide +kernel)]; exact ⟨rfl, rfl⟩))
    (fun os started H enc _ => lifted os started H enc)
end Go.Proofs.Ytbbippgnmllcoaa.seqRings
namespace Go.Proofs.Ytbbippgnmllcoaa
/-- THE STATEMENT. -/
theorem seqRings_holds : Rows.SeqRingsSaid := seqRings.over
#print axioms seqRings_holds
end Go.Proofs.Ytbbippgnmllcoaa
