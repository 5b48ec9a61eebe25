/-
  CtlBounds: whatever befalls a sender, its timer stays from 1 to 60 seconds and never falls by backing off, and its window from one segment to 2^30 - 1.
  No conditions: every input that can be read.
-/
import Derived.Test.YtgjdhokafmmhcaaConsCtlBounds
import Derived.Test.YtgjdhokafmmhcaaSyV
import Derived.Test.YtgjdhokafmmhcaaRows
set_option linter.unusedVariables false
set_option linter.unusedSimpArgs false
namespace Go.Proofs.Ytgjdhokafmmhcaa.ctlBounds
open Go.Sy Go.ChangeShapes Go.WideShapes Go.ChangeAt Go.RowKit
/-- What 'adit/aditlaw19.CtlBounds' comes to. -/
def val (F : Nat → D → D) (v0 : Int) (v1 : List D) : Bool :=
  let x0 : D := F 0 (D.ls ([] : List D))
  let x1 : Bool := (D.toB x0)
  let x2 : Int := zmax v0 1
  let x3 : Int := zmin x2 65535
  let x4 : Bool := decide ((x3 : Int) < 1)
  let x5 : Bool := decide ((x3 : Int) > 65535)
  let x6 : Bool := if x4 then true else x5
  let x7 : Int := w64 (4 * x3)
  let x8 : Int := w64 (2 * x3)
  let x9 : Int := zmax x8 4380
  let x10 : Int := zmin x7 x9
  let x11 : List D := (D.i x10) :: ([(D.i 1073741823), (D.i 0), (D.b false), (D.i 0), (D.b false), (D.i 0), (D.i 0), (D.i 1000), (D.i 0)] : List D)
  let x12 : List D := (D.i x3) :: x11
  let x13 : List D := (D.i 0) :: x12
  let x14 : List D := (D.i x3) :: x13
  let x15 : List D := (D.ls v1) :: x14
  let x16 : D := F 3 (D.ls x15)
  let x17 : Bool := (D.toB x16)
  let x18 : Bool := if x6 then true else x17
  let x19 : D := F 4 (D.ls x15)
  let x20 : Int := (D.toI x19)
  let x21 : Bool := (x20 : Int) == 0
  let x22 : Bool := if x21 then false else true
  let x23 : Bool := if x6 then false else x22
  (x1 && (x18 && x23))
def symArgs : List SV := [.int .i64 (.var 0), .rsl (.row [(.int .i64), (.int .i64), (.int .i64), (.int .i64)]) (.var 1)]
set_option maxRecDepth 100000 in
theorem run (F : Nat → D → D) (R : Nat → Option (List Value)) (v0 : Int) (v1 : List D) : (evFun Try.prog z2 1000 7 symArgs []).okB (envL F R [.i v0, .ls v1]) = val F v0 v1 := by kernel_rfl

theorem zmaxE (x y : Int) : zmax x y = max x y := by unfold zmax; split <;> omega
theorem zminE (x y : Int) : zmin x y = min x y := by unfold zmin; split <;> omega
/-- What stays so, whatever befalls the sender. -/
structure Inv (l : List D) (m i r0 cw rto : Int) : Prop where
  m1 : 1 ≤ m
  m2 : m ≤ 65535
  i0 : 0 ≤ i
  i1 : i ≤ (l.length : Int)
  ll : (l.length : Int) ≤ 9223372036854775807
  r0 : r0 = m
  c1 : m ≤ cw
  c2 : cw ≤ 1073741823
  t1 : 1000 ≤ rto
  t2 : rto ≤ 60000
set_option maxHeartbeats 4000000 in
theorem step_in {l : List D} {m i r0 cw th du : Int} {rec : Bool} {up : Int} {kn : Bool} {sr va rto tr : Int} (h : Inv l m i r0 cw rto) (hi : i < (l.length : Int)) :
    ∃ r0' cw' th' du' rec' up' kn' sr' va' rto' tr', stepL1018 l m i r0 cw th du rec up kn sr va rto tr = some (0, [.ls l, .i m, .i (i + 1), .i r0', .i cw', .i th', .i du', .b rec', .i up', .b kn', .i sr', .i va', .i rto', .i tr']) ∧ Inv l m (i + 1) r0' cw' rto' := by
  obtain ⟨m1, m2, i0, i1, ll, hr0, c1, c2, t1, t2⟩ := h
  subst hr0
  unfold stepL1018
  extract_lets x0 x1 x2 x3 x4 x5 x6 x7 x8 x9 x10 x11 x12 x13 x14 x15 x16 x17 x18 x19 x20 x21 x22 x23 x24 x25 x26 x27 x28 x29 x30 x31 x32 x33 x34 x35 x36 x37 x38 x39 x40 x41 x42 x43 x44 x45 x46 x47 x48 x49 x50 x51 x52 x53 x54 x55 x56 x57 x58 x59 x60 x61 x62 x63 x64 x65 x66 x67 x68 x69 x70 x71 x72 x73 x74 x75 x76 x77 x78 x79 x80 x81 x82 x83 x84 x85 x86 x87 x88 x89 x90 x91 x92 x93 x94 x95 x96 x97 x98 x99 x100 x101 x102 x103 x104 x105 x106 x107 x108 x109 x110 x111 x112 x113 x114 x115 x116 x117 x118 x119 x120 x121 x122 x123 x124 x125 x126 x127 x128 x129 x130 x131 x132 x133 x134 x135 x136 x137 x138 x139 x140 x141 x142 x143 x144 x145 x146 x147 x148 x149 x150 x151 x152
  have e1 : x1 = true := decide_eq_true hi
  have e3 : x3 = true := by show (if decide (i ≥ 0) = true then x1 else false) = true; rw [e1, if_pos (by simpa using i0)]
  have e10 : x10 = r0 := by show zmin (zmax r0 1) 65535 = r0; rw [zminE, zmaxE]; omega
  have e12 : x12 = cw := by show zmin (zmax cw x10) 1073741823 = cw; rw [zminE, zmaxE, e10]; omega
  have e13 : x13 = 2 * r0 := by show w64 (2 * x10) = _; rw [e10, w64_in (by omega) (by omega)]
  have b15 : 2 * r0 ≤ x15 ∧ x15 ≤ 1073741823 := by
    show 2 * r0 ≤ zmin (zmax th x13) 1073741823 ∧ zmin (zmax th x13) 1073741823 ≤ 1073741823
    rw [zminE, zmaxE, e13]; omega
  have e17 : x17 = true := by show (x12 != 0) = true; rw [e12]; simp; omega
  have e19 : x19 = true := by show (if rec = true then true else if x16 = true then true else x17) = true; rw [e17]; simp
  have e20 : x20 = true := by show (if x8 = true then x19 else true) = true; rw [e19]; simp
  have e21 : x21 = false := by show (x10 != r0) = false; rw [e10]; simp
  have b26 : 0 ≤ x26 ∧ x26 ≤ 1073741823 := by
    show 0 ≤ zmin (zmax x24 0) 1073741823 ∧ zmin (zmax x24 0) 1073741823 ≤ 1073741823
    rw [zminE, zmaxE]; omega
  have e81 : x81 = i + 1 := w64_in (by omega) (by omega)
  rw [if_pos e1, if_pos e3, if_pos e20]
  have b71 : 1000 ≤ x71 ∧ x71 ≤ 60000 := by
    show 1000 ≤ zmin (zmax x69 1000) 60000 ∧ zmin (zmax x69 1000) 60000 ≤ 60000
    rw [zminE, zmaxE]; omega
  have fin : ∀ (q : Bool) (a b : Int), q = false → r0 ≤ a ∧ a ≤ 1073741823 → 1000 ≤ b ∧ b ≤ 60000 → True := fun _ _ _ _ _ _ => trivial
  by_cases q8 : x8 = true
  · -- acknowledged
    have b32 : 0 ≤ x32 ∧ x32 ≤ 1073741823 := by
      show 0 ≤ zmin (zmax x30 0) 1073741823 ∧ zmin (zmax x30 0) 1073741823 ≤ 1073741823
      rw [zminE, zmaxE]; omega
    have b39 : r0 ≤ x39 ∧ x39 ≤ 1073741823 := by
      have h28 : r0 ≤ x28 ∧ x28 ≤ 1073741823 := by
        have e27 : x27 = x26 + r0 := by show w64 (x26 + x10) = _; rw [e10, w64_in (by omega) (by omega)]
        show r0 ≤ zmin x15 x27 ∧ zmin x15 x27 ≤ 1073741823
        rw [zminE, e27]; omega
      have h38 : r0 ≤ x38 ∧ x38 ≤ 1073741823 := by
        have e34 : x34 = cw - x32 := by show w64 (x12 - x32) = _; rw [e12, w64_in (by omega) (by omega)]
        have e35 : x35 = max (cw - x32) r0 := by show zmax x34 x10 = _; rw [zmaxE, e34, e10]
        have e36 : x36 = x35 + r0 := by show w64 (x35 + x10) = _; rw [e10, w64_in (by omega) (by omega)]
        have b37 : r0 ≤ x37 := by show r0 ≤ (if x33 = true then x36 else x35); split <;> omega
        show r0 ≤ zmin x37 1073741823 ∧ zmin x37 1073741823 ≤ 1073741823
        rw [zminE]; omega
      show r0 ≤ (if x22 = true then x28 else x38) ∧ (if x22 = true then x28 else x38) ≤ 1073741823
      split
      · exact h28
      · exact h38
    have b47 : r0 ≤ x47 ∧ x47 ≤ 1073741823 := by
      have e40 : x40 = min x32 r0 := by show zmin x32 x10 = _; rw [zminE, e10]
      have e41 : x41 = cw + x40 := by show w64 (x12 + x40) = _; rw [e12, w64_in (by omega) (by omega)]
      have hmm : 0 ≤ r0 * r0 ∧ r0 * r0 ≤ 4294967296 := by
        constructor
        · exact Int.mul_nonneg (by omega) (by omega)
        · have := Int.mul_le_mul m2 m2 (by omega) (by omega : (0 : Int) ≤ 65535)
          omega
      have e42 : x42 = r0 * r0 := by show w64 (x10 * x10) = _; rw [e10, w64_in (by omega) (by omega)]
      have b43 : 0 ≤ x43 ∧ x43 ≤ 4294967296 := by
        have hd : Int.tdiv x42 x12 = x42 / x12 := Int.tdiv_eq_ediv_of_nonneg (by omega)
        have hd0 : 0 ≤ x42 / x12 := Int.ediv_nonneg (by omega) (by omega)
        have hd1 : x42 / x12 ≤ x42 := Int.ediv_le_self _ (by omega)
        have : x43 = x42 / x12 := by show w64 (Int.tdiv x42 x12) = _; rw [hd, w64_in (by omega) (by omega)]
        omega
      have e44 : x44 = max x43 1 := by show zmax x43 1 = _; rw [zmaxE]
      have e45 : x45 = cw + x44 := by show w64 (x12 + x44) = _; rw [e12, w64_in (by omega) (by omega)]
      have b46 : r0 ≤ x46 := by show r0 ≤ (if x16 = true then x41 else x45); split <;> omega
      show r0 ≤ zmin x46 1073741823 ∧ zmin x46 1073741823 ≤ 1073741823
      rw [zminE]; omega
    have b48 : r0 ≤ x48 ∧ x48 ≤ 1073741823 := by
      show r0 ≤ (if rec = true then x39 else x47) ∧ (if rec = true then x39 else x47) ≤ 1073741823
      split
      · exact b39
      · exact b47
    have e77 : ¬ x77 = true := by
      show ¬ (if x21 = true then true else if decide (x48 < r0) = true then true else if decide (x48 > 1073741823) = true then true else if decide (x71 < 1000) = true then true else decide (x71 > 60000)) = true
      rw [e21, if_neg (by decide), if_neg (by simp; omega), if_neg (by simp; omega), if_neg (by simp; omega)]; simp; omega
    rw [if_pos q8, if_neg e77, e81, e10]
    exact ⟨_, _, _, _, _, _, _, _, _, _, _, rfl, ⟨m1, m2, by omega, by omega, ll, rfl, b48.1, b48.2, b71.1, b71.2⟩⟩
  rw [if_neg q8]
  have e112 : x112 = false := by
    show (if decide (rto < 1000) = true then true else decide (rto > 60000)) = false
    rw [if_neg (by simp; omega)]; simp; omega
  by_cases q84 : x84 = true
  · -- told twice
    have e91 : ¬ x91 = true := by
      show ¬ (if (if rec = true then false else if x88 = true then false else true) = true then x88 else false) = true
      cases x88 <;> cases rec <;> decide
    have b99 : r0 ≤ x99 ∧ x99 ≤ 1073741823 := by
      have b93 : r0 ≤ x93 ∧ x93 ≤ 1073741823 := by
        have e92 : x92 = cw + r0 := by show w64 (x12 + x10) = _; rw [e10, e12, w64_in (by omega) (by omega)]
        show r0 ≤ zmin x92 1073741823 ∧ zmin x92 1073741823 ≤ 1073741823
        rw [zminE]; omega
      have b98 : r0 ≤ x98 ∧ x98 ≤ 1073741823 := by
        have e94 : 0 ≤ x94 ∧ x94 ≤ 536870911 := by
          have hd : Int.tdiv x26 2 = x26 / 2 := Int.tdiv_eq_ediv_of_nonneg (by omega)
          have : x94 = x26 / 2 := by show w64 (Int.tdiv x26 2) = _; rw [hd, w64_in (by omega) (by omega)]
          omega
        have e95 : x95 = max x94 (2 * r0) := by show zmax x94 x13 = _; rw [zmaxE, e13]
        have e96 : x96 = 3 * r0 := by show w64 (3 * x10) = _; rw [e10, w64_in (by omega) (by omega)]
        have e97 : x97 = x95 + 3 * r0 := by show w64 (x95 + x96) = _; rw [e96, w64_in (by omega) (by omega)]
        show r0 ≤ (if x88 = true then x12 else x97) ∧ (if x88 = true then x12 else x97) ≤ 1073741823
        rw [e12]
        split <;> omega
      show r0 ≤ (if rec = true then x93 else x98) ∧ (if rec = true then x93 else x98) ≤ 1073741823
      split
      · exact b93
      · exact b98
    have e115 : ¬ x115 = true := by
      show ¬ (if x21 = true then true else if decide (x99 < r0) = true then true else if decide (x99 > 1073741823) = true then true else x112) = true
      rw [e21, if_neg (by decide), if_neg (by simp; omega), if_neg (by simp; omega), e112]; decide
    rw [if_pos q84, if_neg e91, if_neg e115, e81, e10]
    exact ⟨_, _, _, _, _, _, _, _, _, _, _, rfl, ⟨m1, m2, by omega, by omega, ll, rfl, b99.1, b99.2, t1, t2⟩⟩
  rw [if_neg q84]
  by_cases q118 : x118 = true
  · -- lost
    have e120 : x120 = rto := by show zmin (zmax rto 1000) 60000 = rto; rw [zminE, zmaxE]; omega
    have e121 : x121 = 2 * rto := by show w64 (2 * x120) = _; rw [e120, w64_in (by omega) (by omega)]
    have e122 : x122 = min (2 * rto) 60000 := by show zmin x121 60000 = _; rw [zminE, e121]
    have e125 : x125 = min (max tr 0) 1000 := by show zmin (zmax tr 0) 1000 = _; rw [zminE, zmaxE]
    have e126 : x126 = x125 + 1 := w64_in (by omega) (by omega)
    have e131 : ¬ x131 = true := by
      show ¬ (if x21 = true then true else if decide (x122 < rto) = true then true else if decide (x126 ≤ tr) = true then decide (tr < 1000) else false) = true
      rw [e21, if_neg (by decide), if_neg (by simp; omega)]
      by_cases q : x126 ≤ tr
      · rw [if_pos (by simpa using q)]; simp; omega
      · rw [if_neg (by simpa using q)]; decide
    have e139 : ¬ x139 = true := by
      show ¬ (if x21 = true then true else if decide (x10 < r0) = true then true else if decide (x10 > 1073741823) = true then true else if decide (x122 < 1000) = true then true else decide (x122 > 60000)) = true
      rw [e21, e10, if_neg (by decide), if_neg (by simp), if_neg (by simp; omega), if_neg (by simp; omega)]; simp; omega
    rw [if_pos q118, if_neg e131, if_neg e139, e81, e10]
    exact ⟨_, _, _, _, _, _, _, _, _, _, _, rfl, ⟨m1, m2, by omega, by omega, ll, rfl, by omega, by omega, by omega, by omega⟩⟩
  · -- made fresh
    have b146 : 1000 ≤ x146 ∧ x146 ≤ 60000 := by
      have b145 : 1000 ≤ x145 ∧ x145 ≤ 60000 := by
        show 1000 ≤ zmin (zmax x143 1000) 60000 ∧ zmin (zmax x143 1000) 60000 ≤ 60000
        rw [zminE, zmaxE]; omega
      show 1000 ≤ (if kn = true then x145 else 1000) ∧ (if kn = true then x145 else 1000) ≤ 60000
      split <;> omega
    have e152 : ¬ x152 = true := by
      show ¬ (if (r0 != r0) = true then true else if decide (cw < r0) = true then true else if decide (cw > 1073741823) = true then true else if decide (x146 < 1000) = true then true else decide (x146 > 60000)) = true
      rw [if_neg (by simp), if_neg (by simp; omega), if_neg (by simp; omega), if_neg (by simp; omega)]; simp; omega
    rw [if_neg q118, if_neg e152, e81]
    exact ⟨_, _, _, _, _, _, _, _, _, _, _, rfl, ⟨m1, m2, by omega, by omega, ll, rfl, c1, c2, b146.1, b146.2⟩⟩
theorem step_out {l : List D} {m i r0 cw th du : Int} {rec : Bool} {up : Int} {kn : Bool} {sr va rto tr : Int} (hi : ¬ i < (l.length : Int)) :
    ∃ ys, stepL1018 l m i r0 cw th du rec up kn sr va rto tr = some (2, ys) := by
  refine ⟨[.i r0, .i cw, .i th, .i du, .b rec, .i up, .b kn, .i sr, .i va, .i rto, .i tr], ?_⟩
  unfold stepL1018
  extract_lets x0 x1
  rw [if_neg (by show ¬ decide (i < (l.length : Int)) = true; simpa using hi)]
theorem loop_in : ∀ (d : Nat) {l : List D} {m i r0 cw th du : Int} {rec : Bool} {up : Int} {kn : Bool} {sr va rto tr : Int}, Inv l m i r0 cw rto → (l.length : Int) - i = d →
    ∃ ys, loopV spL1018 [.ls l, .i m, .i i, .i r0, .i cw, .i th, .i du, .b rec, .i up, .b kn, .i sr, .i va, .i rto, .i tr] = some (2, ys)
  | 0, l, m, i, r0, cw, th, du, rec, up, kn, sr, va, rto, tr, h, hd => by
    obtain ⟨ys, hs⟩ := step_out (l := l) (m := m) (i := i) (r0 := r0) (cw := cw) (th := th) (du := du) (rec := rec) (up := up) (kn := kn) (sr := sr) (va := va) (rto := rto) (tr := tr) (by omega)
    exact ⟨ys, loopV_out (j := 1) hs⟩
  | d + 1, l, m, i, r0, cw, th, du, rec, up, kn, sr, va, rto, tr, h, hd => by
    obtain ⟨r0', cw', th', du', rec', up', kn', sr', va', rto', tr', hs, hI⟩ := step_in (th := th) (du := du) (rec := rec) (up := up) (kn := kn) (sr := sr) (va := va) (tr := tr) h (by omega)
    rw [loopV_again (l' := [.ls l, .i m, .i (i + 1), .i r0', .i cw', .i th', .i du', .b rec', .i up', .b kn', .i sr', .i va', .i rto', .i tr']) hs]
    exact loop_in d hI (by omega)
theorem pure (a0 : Int) (a1 : List D) (b0 : -9223372036854775808 ≤ a0 ∧ a0 ≤ 9223372036854775807) (b1 : InC (.sl (.row [(.int .i64), (.int .i64), (.int .i64), (.int .i64)])) (.ls a1)) : val F2 a0 a1 = true := by
  have hlen : (a1.length : Int) ≤ 9223372036854775807 := by simp only [InC, toL_ls] at b1; exact b1.1
  unfold val
  extract_lets x0 x1 x2 x3 x4 x5 x6 x7 x8 x9 x10 x11 x12 x13 x14 x15 x16 x17 x18 x19 x20 x21 x22 x23
  have e1 : x1 = true := by show D.toB (F2 0 (D.ls [])) = true; rw [F_0]; rfl
  have b3 : 1 ≤ x3 ∧ x3 ≤ 65535 := by
    show 1 ≤ zmin (zmax a0 1) 65535 ∧ zmin (zmax a0 1) 65535 ≤ 65535
    rw [zminE, zmaxE]; omega
  have e6 : x6 = false := by
    show (if decide (x3 < 1) = true then true else decide (x3 > 65535)) = false
    rw [if_neg (by simp; omega)]; simp; omega
  have e10 : x10 = min (4 * x3) (max (2 * x3) 4380) := by
    show zmin (w64 (4 * x3)) (zmax (w64 (2 * x3)) 4380) = _
    rw [zminE, zmaxE, w64_in (by omega) (by omega), w64_in (by omega) (by omega)]
  obtain ⟨ys, hL⟩ := loop_in a1.length (l := a1) (m := x3) (i := 0) (r0 := x3) (cw := x10) (th := 1073741823) (du := 0) (rec := false) (up := 0) (kn := false) (sr := 0) (va := 0) (rto := 1000) (tr := 0)
    ⟨b3.1, b3.2, by omega, by omega, hlen, rfl, by omega, by omega, by omega, by omega⟩ (by omega)
  have hL : loopV spL1018 x15 = some (2, ys) := hL
  have e17 : x17 = true := by show D.toB (F2 3 (D.ls x15)) = true; rw [F_3, show (D.ls x15).toL = x15 from rfl, hL]; rfl
  have e21 : x21 = false := by show (D.toI (F2 4 (D.ls x15)) == 0) = false; rw [F_4, show (D.ls x15).toL = x15 from rfl, hL]; rfl
  show (x1 && ((if x6 = true then true else x17) && (if x6 = true then false else if x21 = true then false else true))) = true
  rw [e1, e6, e17, e21]; rfl

theorem own : ownKnob Try.prog.godebug = none := by kernel_rfl
set_option maxRecDepth 100000 in
theorem lifted (os : Os) (started : os.Started) (H : Type) (enc : TypeId × Value → H) :
    ReturnsInHanded {} Try.checked os 7 .any (Rows.ctlBoundsSpec.pre6 enc Try.prog Try.f7 Rows.ctlBoundsRow.domain false) (Rows.ctlBoundsSpec.post enc Try.prog Try.f7 false true false false) := by
  refine returnsInHanded_of_change (C := Try.checked) own started (by kernel_rfl) Try.func7
    (ChangeSpec.witness6 (enc := enc) (C := Try.checked) false ⟨#[], #[.int .i64 0, .slice none 0 0], []⟩ 8 (by kernel_rfl) (by kernel_rfl) (by kernel_rfl) (by kernel_rfl)) ?_
  intro W base args ds gs before hval0 hW hcnd _
  have hval : ∀ (j : Nat) t v, Try.f7.params[j]? = some t → args[j]? = some v → Value.okWide Try.prog W .any base t v := hval0
  have hW' := hW
  obtain ⟨p, q, hA0, hV, rfl, hfz, hnd⟩ := hW
  have hA : DataW.TrodAll enc Try.prog W 0 (fun _ => true) true Try.f7.params.toList args.toList ds p := hA0
  rw [Try.params7] at hA hval
  obtain ⟨v0, vs0, d0, ds0, p0, q0, hargs, rfl, rfl, h0, r0⟩ := trodAll_cons hA
  obtain ⟨v1, vs1, d1, ds1, p1, q1, rfl, rfl, rfl, h1, r1⟩ := trodAll_cons r0
  obtain ⟨rfl, rfl, rfl⟩ := trodAll_nil r1
  obtain rfl : args = #[v0, v1] := by cases args; simp_all
  obtain ⟨rfl, rfl⟩ := trodVars_none hV
  obtain ⟨a0, rfl, c0⟩ := argWide_int Try.underlying3 (hval 0 3 v0 rfl rfl)
  have b0 := has_i64 c0
  have hv1 := argWide_slice Try.underlying45 (hval 1 45 v1 rfl rfl)
  obtain ⟨a1, ro1, b1⟩ := arg_rsl (et := (.row [(.int .i64), (.int .i64), (.int .i64), (.int .i64)])) (by kernel_rfl) h1 hv1
  generalize v1 = sv1 at *
  refine (law_walkF (P := Try.prog) Try.checked.mixed (n := 1000) (f := 7) (args := symArgs) (F := F2) (R := blocksOf W) (l := [.i a0, .ls a1]) (Z := z2) (Ω := Om.none) (w := W) good2 (blocksOf_ok W) (by rw [run]; exact pure a0 a1 b0 b1) (vs := [.int .i64 a0, sv1]) (Rels.cons (rel_int rfl) (Rels.cons (rel_rsl ro1 rfl) (Rels.nil)))).mono fun e W' ⟨he, hb⟩ => ?_
  subst he
  exact ⟨_, rfl, law_post (by kernel_rfl) (by rw [Try.params7]; intro t ht; simp at ht; rcases ht with rfl | rfl <;> exact ⟨by kernel_rfl, of_decide_eq_true (by kernel_rfl)⟩) (by kernel_rfl) Try.underlying4 rfl ⟨rfl, rfl, rfl⟩ hW' hb⟩

theorem over : Rows.ctlBoundsRow.holds Try.pinned (OpenSpec.ofChange Rows.ctlBoundsSpec) :=
  OpenClaim.holds_of_wide 7 Try.f7 rfl rfl rfl rfl rfl rfl rfl ⟨rfl, rfl, rfl, rfl, rfl⟩ rfl rfl rfl rfl rfl (by kernel_rfl) Try.func7 (by kernel_rfl)
    (of_decide_eq_true (by kernel_rfl)) (by unfold Func.isWrapper; first | (rw [if_pos (by decide +kernel)]; kernel_rfl) | (rw [if_neg (by decide +kernel)]; exact ⟨rfl, rfl⟩))
    (fun os started H enc _ => lifted os started H enc)
end Go.Proofs.Ytgjdhokafmmhcaa.ctlBounds
namespace Go.Proofs.Ytgjdhokafmmhcaa
/-- THE STATEMENT. -/
theorem ctlBounds_holds : Rows.CtlBoundsSaid := ctlBounds.over
#print axioms ctlBounds_holds
end Go.Proofs.Ytgjdhokafmmhcaa
