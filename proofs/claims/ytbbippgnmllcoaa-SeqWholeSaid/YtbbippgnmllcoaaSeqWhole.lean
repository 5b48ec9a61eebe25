/-
  SeqWhole: pieces of one text in any order, and turns of take and read after them, give the whole text back and nothing else, the room never passed, as P17.1 says.
  No conditions: every input that can be read.
-/
import Derived.Test.YtbbippgnmllcoaaConsSeqWhole
import Derived.Test.YtbbippgnmllcoaaSyV
import Derived.Test.YtbbippgnmllcoaaRows
set_option linter.unusedVariables false
set_option linter.unusedSimpArgs false
namespace Go.Proofs.Ytbbippgnmllcoaa.seqWhole
open Go.Sy Go.ChangeShapes Go.WideShapes Go.ChangeAt Go.RowKit
/-- What 'adit/aditlaw17.SeqWhole' comes to. -/
def val (F : Nat → D → D) (v0 : List UInt8) (v1 : Int) (v2 : List D) : Bool :=
  let x0 : D := F 0 (D.ls ([] : List D))
  let x1 : Bool := (D.toB x0)
  let x2 : Int := ((v0).length : Int)
  let x3 : Bool := decide ((x2 : Int) > 3000)
  let x4 : Bool := decide ((3000 : Int) ≤ x2)
  let x5 : Bool := if x3 then x4 else true
  let x6 : List UInt8 := ((v0).drop (Int.toNat 0)).take (Int.toNat 3000 - Int.toNat 0)
  let x7 : List UInt8 := if x3 then x6 else v0
  let x8 : Bool := decide ((v1 : Int) < 0)
  let x9 : Int := w64 (v1 + 1)
  let x10 : Int := w64 (0 - x9)
  let x11 : Int := if x8 then x10 else v1
  let x12 : Int := Int.tmod x11 200
  let x13 : Int := w64 (1 + x12)
  let x14 : Int := zmax x13 0
  let x15 : Int := zmin x14 65535
  let x16 : List D := (D.i x15) :: ([(D.i 0), (D.i 0), (D.b false), (D.i 0), (D.ls []), (D.ls [])] : List D)
  let x17 : List D := (D.i 0) :: x16
  let x18 : List D := (D.i 0) :: x17
  let x19 : List D := (D.s ([] : List UInt8)) :: x18
  let x20 : List D := (D.ls v2) :: x19
  let x21 : List D := (D.s x7) :: x20
  let x22 : D := F 21 (D.ls x21)
  let x23 : Bool := (D.toB x22)
  let x24 : D := F 22 (D.ls x21)
  let x25 : Int := (D.toI x24)
  let x26 : Bool := (x25 : Int) == 0
  let x27 : D := F 23 (D.ls x21)
  let x28 : List D := (D.toL x27)
  let x29 : D := (x28).getD 1 (D.i 0)
  let x30 : List UInt8 := (D.toS x29)
  let x31 : D := (x28).getD 2 (D.i 0)
  let x32 : Int := (D.toI x31)
  let x33 : D := (x28).getD 3 (D.i 0)
  let x34 : Int := (D.toI x33)
  let x35 : D := (x28).getD 4 (D.i 0)
  let x36 : Int := (D.toI x35)
  let x37 : D := (x28).getD 5 (D.i 0)
  let x38 : Int := (D.toI x37)
  let x39 : D := (x28).getD 6 (D.i 0)
  let x40 : Bool := (D.toB x39)
  let x41 : D := (x28).getD 7 (D.i 0)
  let x42 : Int := (D.toI x41)
  let x43 : D := (x28).getD 8 (D.i 0)
  let x44 : List D := (D.toL x43)
  let x45 : D := (x28).getD 9 (D.i 0)
  let x46 : List D := (D.toL x45)
  let x47 : List D := (D.ls x46) :: ([] : List D)
  let x48 : List D := (D.ls x44) :: x47
  let x49 : List D := (D.i x42) :: x48
  let x50 : List D := (D.b x40) :: x49
  let x51 : List D := (D.i x38) :: x50
  let x52 : List D := (D.i x36) :: x51
  let x53 : List D := (D.i x34) :: x52
  let x54 : List D := (D.i x32) :: x53
  let x55 : List D := (D.i 0) :: x54
  let x56 : List D := (D.s x30) :: x55
  let x57 : List D := (D.s x7) :: x56
  let x58 : D := F 24 (D.ls x57)
  let x59 : Bool := (D.toB x58)
  let x60 : Bool := if x26 then true else x59
  let x61 : D := F 25 (D.ls x57)
  let x62 : Int := (D.toI x61)
  let x63 : Bool := (x62 : Int) == 0
  let x64 : D := F 26 (D.ls x57)
  let x65 : List D := (D.toL x64)
  let x66 : D := (x65).getD 1 (D.i 0)
  let x67 : Bool := ((D.toS x66) : List UInt8) == x7
  let x68 : D := (x65).getD 8 (D.i 0)
  let x69 : Int := (((D.toL x68)).length : Int)
  let x70 : Bool := (x69 : Int) == 0
  let x71 : D := (x65).getD 5 (D.i 0)
  let x72 : Bool := ((D.toI x71) : Int) == 0
  let x73 : Bool := if x70 then x72 else false
  let x74 : Bool := if x67 then x73 else false
  let x75 : Bool := if x63 then false else x74
  let x76 : Bool := if x26 then false else x75
  (x1 && (x5 && (x23 && (x60 && x76))))
def symArgs : List SV := [.str (.var 0), .int .i64 (.var 1), .rsl (.row [.bool, (.int .i64), .str]) (.var 2)]
set_option maxRecDepth 100000 in
theorem run (F : Nat → D → D) (R : Nat → Option (List Value)) (v0 : List UInt8) (v1 : Int) (v2 : List D) : (evFun Try.prog z9 1000 7 symArgs []).okB (envL F R [.s v0, .i v1, .ls v2]) = val F v0 v1 v2 := by kernel_rfl

theorem zmaxE (x y : Int) : zmax x y = max x y := by unfold zmax; split <;> omega
theorem zminE (x y : Int) : zmin x y = min x y := by unfold zmin; split <;> omega
def rd (f j R : Int) : Int := if f + j < R then f + j else f + j - R
theorem tmod_rd {x R : Int} (h0 : 0 ≤ x) (h1 : x < 2 * R) : Int.tmod x R = if x < R then x else x - R := by
  rw [Int.tmod_eq_emod_of_nonneg h0]
  split
  · exact Int.emod_eq_of_lt h0 (by assumption)
  · rename_i h
    have e : x % R = (x - R) % R := by rw [Int.sub_emod_right]
    rw [e]
    exact Int.emod_eq_of_lt (by omega) (by omega)
def at' (A : List D) (p : Int) : Int := (A.getD p.toNat (.i 0)).toI
theorem at_set {A : List D} {p q : Int} {n : Int} (hp : 0 ≤ p) (hq : 0 ≤ q) (hl : p < (A.length : Int)) : at' (A.set p.toNat (.i n)) q = if q = p then n else at' A q := by
  unfold at'
  rw [List.getD_eq_getElem?_getD, List.getD_eq_getElem?_getD]
  by_cases h : q = p
  · subst h
    rw [if_pos rfl, List.getElem?_set_self (by omega)]; rfl
  · rw [if_neg h, List.getElem?_set_ne (by omega)]
/-! ### maps -/
theorem mfind_mput (k k' v : Int) : ∀ M : List D, mfind k (mput k' v M) = if k = k' then some v else mfind k M
  | [] => by
    simp only [mput, mfind]
    have e1 : dkey (.ls [.i k', .i v]) = k' := rfl
    have e2 : dval (.ls [.i k', .i v]) = v := rfl
    rw [e1, e2]
    by_cases h : k' = k
    · rw [if_pos h, if_pos h.symm]
    · rw [if_neg h, if_neg (fun hh => h hh.symm)]
  | e :: r => by
    simp only [mput]
    have e1 : dkey (.ls [.i k', .i v]) = k' := rfl
    have e2 : dval (.ls [.i k', .i v]) = v := rfl
    by_cases h : dkey e = k'
    · rw [if_pos h]
      simp only [mfind]
      rw [e1, e2, h]
      by_cases hk : k' = k
      · rw [if_pos hk, if_pos hk.symm]
      · rw [if_neg hk, if_neg hk, if_neg (fun hh => hk hh.symm)]
    · rw [if_neg h]
      simp only [mfind]
      by_cases hk : dkey e = k
      · rw [if_pos hk, if_pos hk, if_neg (by rw [← hk]; exact h)]
      · rw [if_neg hk, if_neg hk]; exact mfind_mput k k' v r
/-- no key twice -/
def nd (M : List D) : Prop := (M.map dkey).Nodup
theorem mfind_none {k : Int} : ∀ {M : List D}, mfind k M = none ↔ k ∉ M.map dkey
  | [] => by simp [mfind]
  | e :: r => by
    simp only [mfind, List.map_cons, List.mem_cons, not_or]
    by_cases h : dkey e = k
    · rw [if_pos h]; simp [h]
    · rw [if_neg h, mfind_none]
      exact ⟨fun hh => ⟨fun q => h q.symm, hh⟩, fun hh => hh.2⟩
theorem mput_keys (k v : Int) : ∀ M : List D, (mput k v M).map dkey = if (mfind k M).isSome then M.map dkey else M.map dkey ++ [k]
  | [] => rfl
  | e :: r => by
    by_cases h : dkey e = k
    · have hf : mfind k (e :: r) = some (dval e) := by simp only [mfind]; rw [if_pos h]
      have hp : mput k v (e :: r) = .ls [.i k, .i v] :: r := by simp only [mput]; rw [if_pos h]
      rw [hf, hp]
      simp only [List.map_cons, Option.isSome_some, if_true]
      rw [h]; rfl
    · have hf : mfind k (e :: r) = mfind k r := by simp only [mfind]; rw [if_neg h]
      have hp : mput k v (e :: r) = e :: mput k v r := by simp only [mput]; rw [if_neg h]
      rw [hf, hp, List.map_cons, mput_keys k v r]
      split <;> rfl
theorem nd_mput {k v : Int} {M : List D} (h : nd M) : nd (mput k v M) := by
  unfold nd at *
  rw [mput_keys]
  split
  · exact h
  · rename_i hn
    have hk : k ∉ M.map dkey := mfind_none.1 (by cases hq : mfind k M with | none => rfl | some x => rw [hq] at hn; exact absurd rfl hn)
    rw [List.nodup_append]
    exact ⟨h, by simp, fun a ha b hb => by simp at hb; subst hb; rintro rfl; exact hk ha⟩
theorem mdel_keys (k : Int) : ∀ M : List D, (mdel k M).map dkey = (M.map dkey).erase k
  | [] => rfl
  | e :: r => by
    simp only [mdel, List.map_cons]
    by_cases h : dkey e = k
    · rw [if_pos h, h, List.erase_cons_head]
    · rw [if_neg h, List.map_cons, mdel_keys k r, List.erase_cons_tail (by simpa using h)]
theorem nd_mdel {k : Int} {M : List D} (h : nd M) : nd (mdel k M) := by
  unfold nd at *
  rw [mdel_keys]; exact h.erase k
theorem mfind_mdel {k k' : Int} : ∀ {M : List D}, nd M → mfind k (mdel k' M) = if k = k' then none else mfind k M
  | [], _ => by simp [mdel, mfind]
  | e :: r, h => by
    have hr : nd r := (List.nodup_cons.1 h).2
    have he : dkey e ∉ r.map dkey := (List.nodup_cons.1 h).1
    simp only [mdel]
    by_cases hk : dkey e = k'
    · rw [if_pos hk]
      by_cases hkk : k = k'
      · rw [if_pos hkk, mfind_none, hkk, ← hk]; exact he
      · rw [if_neg hkk]; simp only [mfind]; rw [if_neg (by rw [hk]; exact fun q => hkk q.symm)]
    · rw [if_neg hk]
      simp only [mfind]
      by_cases hq : dkey e = k
      · rw [if_pos hq, if_pos hq, if_neg (by rw [← hq]; exact hk)]
      · rw [if_neg hq, if_neg hq]; exact mfind_mdel hr
theorem len_mput (k v : Int) (M : List D) : (mput k v M).length = if (mfind k M).isSome then M.length else M.length + 1 := by
  have h := congrArg List.length (mput_keys k v M)
  rw [List.length_map] at h
  rw [h]
  split
  · rw [List.length_map]
  · rw [List.length_append, List.length_map]; rfl
theorem len_mdel {k : Int} {M : List D} (h : (mfind k M).isSome = true) : (mdel k M).length + 1 = M.length := by
  have hl := congrArg List.length (mdel_keys k M)
  rw [List.length_map] at hl
  have hm : k ∈ M.map dkey := by
    rcases Classical.em (k ∈ M.map dkey) with q | q
    · exact q
    · rw [mfind_none.2 q] at h; cases h
  rw [List.length_erase_of_mem hm, List.length_map] at hl
  have : 0 < M.length := by have := List.length_pos_of_mem hm; rwa [List.length_map] at this
  omega
/-! ### the loops of Take -/
def byt (s : List UInt8) (j : Int) : Int := ((s.getD j.toNat 0).toNat : Int)
theorem takeA_loop {p e : Int} {s : List UInt8} {v4 v5 v6 v7 : Int} {v8 : Bool} {v9 : Int} {A : List D} (p0 : 0 ≤ p) (hs : p + (s.length : Int) ≤ 4611686018427387904) : ∀ (k : Nat) (a : Int) (M : List D), p ≤ a → a ≤ 4611686018427387904 → max a (min (p + (s.length : Int)) e) - a = k → nd M →
    ∃ M', loopV spTakeA [.i p, .s s, .i e, .i a, .i v4, .i v5, .i v6, .i v7, .b v8, .i v9, .ls M, .ls A] = some (1, [.i e, .i v4, .i v5, .i v6, .i v7, .b v8, .i v9, .ls M', .ls A]) ∧ nd M' ∧
      ∀ q, mfind q M' = if a ≤ q ∧ q < p + (s.length : Int) ∧ q < e ∧ mfind q M = none then some (byt s (q - p)) else mfind q M
  | 0, a, M, pa, pa2, hk, hM => by
    refine ⟨M, loopV_out (j := 0) ?_, hM, fun q => by rw [if_neg (by omega)]⟩
    show stepTakeA p s e a v4 v5 v6 v7 v8 v9 M A = _
    unfold stepTakeA
    extract_lets -merge x0 x1 x2 x3
    have e1 : x1 = p + (s.length : Int) := w64_in (by omega) (by omega)
    have e2 : x2 = min (p + (s.length : Int)) e := by show zmin x1 e = _; rw [zminE, e1]
    rw [if_neg (by show ¬ decide (a < x2) = true; rw [e2]; simp; omega)]
  | k + 1, a, M, pa, pa2, hk, hM => by
    have hlt : a < p + (s.length : Int) ∧ a < e := by omega
    have hst : spTakeA [.i p, .s s, .i e, .i a, .i v4, .i v5, .i v6, .i v7, .b v8, .i v9, .ls M, .ls A] = some (0, [.i p, .s s, .i e, .i (a + 1), .i v4, .i v5, .i v6, .i v7, .b v8, .i v9, .ls (if mfind a M = none then mput a (byt s (a - p)) M else M), .ls A]) := by
      show stepTakeA p s e a v4 v5 v6 v7 v8 v9 M A = _
      unfold stepTakeA
      extract_lets -merge x0 x1 x2 x3 x4 x5 x6 x7 x8 x9 x10 x11 x12 x13 x14
      have e1 : x1 = p + (s.length : Int) := w64_in (by omega) (by omega)
      have e2 : x2 = min (p + (s.length : Int)) e := by show zmin x1 e = _; rw [zminE, e1]
      have e6 : x6 = a - p := w64_in (by omega) (by omega)
      have e9 : x9 = true := by
        show (if decide (x6 ≥ 0) = true then decide (x6 < (s.length : Int)) else false) = true
        rw [e6, if_pos (by simp; omega)]; simp; omega
      have e10 : x10 = true := by show (if x5 = true then x9 else true) = true; rw [e9]; simp
      have e11 : x11 = a + 1 := w64_in (by omega) (by omega)
      have e14 : x14 = if mfind a M = none then mput a (byt s (a - p)) M else M := by
        show (if (!(mfind a M).isSome) = true then mput a (byt s x6) M else M) = _
        rw [e6]
        cases hq : mfind a M with
        | none => rw [if_pos rfl, if_pos (by rfl)]
        | some x => rw [if_neg (by simp), if_neg (by simp)]
      rw [if_pos (by show decide (a < x2) = true; rw [e2]; simp; omega), if_pos e10, e11, e14]
    have hM2 : nd (if mfind a M = none then mput a (byt s (a - p)) M else M) := by split; exact nd_mput hM; exact hM
    obtain ⟨M', h1, h2, h3⟩ := takeA_loop (p := p) (e := e) (s := s) (v4 := v4) (v5 := v5) (v6 := v6) (v7 := v7) (v8 := v8) (v9 := v9) (A := A) p0 hs k (a + 1) _ (by omega) (by omega) (by omega) hM2
    refine ⟨M', (loopV_again hst).trans h1, h2, fun q => ?_⟩
    rw [h3 q]
    by_cases hqa : q = a
    · subst hqa
      rw [if_neg (by omega)]
      by_cases hn : mfind q M = none
      · rw [if_pos hn, mfind_mput, if_pos rfl, if_pos ⟨by omega, hlt.1, hlt.2, hn⟩]
      · rw [if_neg hn, if_neg (fun h => hn h.2.2.2)]
    · have hf : mfind q (if mfind a M = none then mput a (byt s (a - p)) M else M) = mfind q M := by
        split
        · rw [mfind_mput, if_neg hqa]
        · rfl
      rw [hf]
      by_cases hc : a ≤ q ∧ q < p + (s.length : Int) ∧ q < e ∧ mfind q M = none
      · rw [if_pos ⟨by omega, hc.2.1, hc.2.2.1, hc.2.2.2⟩, if_pos hc]
      · rw [if_neg (fun h => hc ⟨by omega, h.2.1, h.2.2.1, h.2.2.2⟩), if_neg hc]
theorem push1 {R f c b : Int} {nn : Bool} {A : List D} (hR : 0 < R) (hR2 : R ≤ 65535) (hf : 0 ≤ f) (hf2 : f < R) (hc : 0 ≤ c) (hc2 : c < R) (hA : (A.length : Int) = R) :
    loopV spPush [.i 1, .b true, .i 1, .i 1, .i 0, .i R, .i f, .i c, .b nn, .i R, .ls [.i b], .ls A] = some (1, [.i 1, .i R, .i f, .i c, .b nn, .i R, .ls [.i b], .ls (A.set (rd f c R).toNat (.i b))]) := by
  have hs : spPush [.i 1, .b true, .i 1, .i 1, .i 0, .i R, .i f, .i c, .b nn, .i R, .ls [.i b], .ls A] = some (0, [.i 1, .b true, .i 1, .i 1, .i 1, .i R, .i f, .i c, .b nn, .i R, .ls [.i b], .ls (A.set (rd f c R).toNat (.i b))]) := by
    show stepPush 1 true 1 1 0 R f c nn R [.i b] A = _
    unfold stepPush
    extract_lets -merge x0 x1 x2 x3 x4 x5 x6 x7 x8 x9 x10 x11 x12 x13 x14 x15 x16 x17 x18
    have b9 : 0 ≤ rd f c R ∧ rd f c R < R := by unfold rd; split <;> omega
    have e8 : x8 = f + c := by
      have e7 : x7 = f + c := w64_in (by omega) (by omega)
      show w64 (x7 + 0) = _
      rw [e7, w64_in (by omega) (by omega)]; omega
    have e9 : x9 = rd f c R := by show Int.tmod x8 R = _; rw [e8, tmod_rd (by omega) (by omega)]; rfl
    have e12 : x12 = true := by show (if decide (x9 ≥ 0) = true then decide (x9 < R) else false) = true; rw [e9, if_pos (by simpa using b9.1)]; simpa using b9.2
    have e14 : x14 = true := by show decide (x9 < (A.length : Int)) = true; rw [e9, hA]; simpa using b9.2
    have e18 : x18 = A.set (rd f c R).toNat (.i b) := by show A.set x9.toNat _ = _; rw [e9]; rfl
    rw [if_pos (show x0 = true from rfl), if_pos (show x3 = true from rfl), if_pos (show x5 = true from rfl), if_pos (by show (R != 0) = true; simp; omega), if_pos e12, if_pos e14, e18]
    rfl
  rw [loopV_again hs]
  refine loopV_out (j := 0) ?_
  rfl
/-- What holds of a ring of bytes. -/
structure SI (R f c : Int) (nn : Bool) (al : Int) (A : List D) : Prop where
  R0 : 0 ≤ R
  R1 : R ≤ 65535
  f0 : 0 ≤ f
  f1 : f < R ∨ f = 0
  c0 : 0 ≤ c
  c1 : c ≤ R
  nz : nn = false → c = 0
  Al : nn = true → al = R ∧ (A.length : Int) = R
theorem H6 (d : D) : F3 6 d = .b (loopV spPush d.toL).isSome := by kernel_rfl
theorem H8 (d : D) : F3 8 d = .ls (match loopV spPush d.toL with | some (_, ys) => ys | none => []) := by kernel_rfl
theorem takeB_out {e was R f nx c : Int} {nn : Bool} {al : Int} {M A : List D} (h : ¬ nx < e) :
    spTakeB [.i e, .i was, .i nx, .i R, .i f, .i c, .b nn, .i al, .ls M, .ls A] = some (1, [.i was, .i nx, .i R, .i f, .i c, .b nn, .i al, .ls M, .ls A]) := by
  show stepTakeB (F3 6) (F3 8) e was nx R f c nn al M A = _
  unfold stepTakeB
  extract_lets -merge x0
  rw [if_neg (by show ¬ decide (nx < e) = true; simpa using h)]
theorem takeB_gone {e was R f nx c : Int} {nn : Bool} {al : Int} {M A : List D} (h : nx < e) (hm : mfind nx M = none) :
    spTakeB [.i e, .i was, .i nx, .i R, .i f, .i c, .b nn, .i al, .ls M, .ls A] = some (1, [.i was, .i nx, .i R, .i f, .i c, .b nn, .i al, .ls M, .ls A]) := by
  show stepTakeB (F3 6) (F3 8) e was nx R f c nn al M A = _
  unfold stepTakeB
  extract_lets -merge x0 x1 x2
  rw [if_pos (by show decide (nx < e) = true; simpa using h), if_pos (by show (!(mfind nx M).isSome) = true; rw [hm]; rfl)]
theorem takeB_step {e was R f nx c : Int} {nn : Bool} {al b : Int} {M A : List D} (hI : SI R f c nn al A) (h : nx < e) (h0 : 0 ≤ nx) (he : e ≤ 4611686018427387904) (hc : c < R) (hm : mfind nx M = some b) :
    ∃ (nn' : Bool) (al' : Int) (A' : List D), spTakeB [.i e, .i was, .i nx, .i R, .i f, .i c, .b nn, .i al, .ls M, .ls A] = some (0, [.i e, .i was, .i (nx + 1), .i R, .i f, .i (c + 1), .b nn', .i al', .ls (mdel nx M), .ls A']) ∧ SI R f (c + 1) nn' al' A' ∧
      (∀ j, 0 ≤ j → j < c → at' A' (rd f j R) = at' A (rd f j R)) ∧ at' A' (rd f c R) = b := by
  obtain ⟨R0, R1, f0, f1, c0, c1, nz, Al⟩ := hI
  show ∃ nn' al' A', stepTakeB (F3 6) (F3 8) e was nx R f c nn al M A = _ ∧ _
  unfold stepTakeB
  extract_lets -merge x0 x1 x2 x3 x4 x5 x6 x7 x8 x9 x10 x11 x12 x13 x14 x15 x16 x17 x18 x19 x20 x21 x22 x23 x24 x25 x26 x27 x28 x29 x30 x31 x32 x33 x34 x35 x36 x37 x38 x39 x40 x41 x42 x43 x44 x45 x46 x47 x48 x49 x50 x51 x52 x53 x54 x55 x56 x57 x58 x59 x60 x61 x62 x63 x64
  have e0 : x0 = true := by show decide (nx < e) = true; simpa using h
  have e2 : ¬ x2 = true := by show ¬ (!(mfind nx M).isSome) = true; rw [hm]; simp
  have e3 : x3 = R - c := w64_in (by omega) (by omega)
  have e4 : x4 = 1 := by show zmin 1 x3 = 1; rw [zminE, e3]; omega
  have e5 : ¬ x5 = true := by show ¬ decide (x4 ≤ 0) = true; rw [e4]; decide
  have e14 : x14 = true := by show (if decide (x4 ≥ 0) = true then decide (x4 ≤ 1) else false) = true; rw [e4]; rfl
  have e9 : x9 = true := by show (if decide (R ≥ 0) = true then decide (R ≤ 1099511627776) else false) = true; rw [if_pos (by simpa using R0)]; simp; omega
  have e54 : x54 = nx + 1 := w64_in (by omega) (by omega)
  have e56 : x56 = c + 1 := by show w64 (c + x4) = _; rw [e4, w64_in (by omega) (by omega)]
  have e17 : x17 = b := by show (mfind nx M).getD 0 = b; rw [hm]; rfl
  have hrd : 0 ≤ rd f c R ∧ rd f c R < R := by unfold rd; split <;> omega
  have others : ∀ (A0 : List D), (A0.length : Int) = R → (∀ j, 0 ≤ j → j < c → at' (A0.set (rd f c R).toNat (.i b)) (rd f j R) = at' A0 (rd f j R)) ∧ at' (A0.set (rd f c R).toNat (.i b)) (rd f c R) = b := by
    intro A0 hA0
    refine ⟨fun j hj0 hj => ?_, ?_⟩
    · have hj8 : 0 ≤ rd f j R := by unfold rd; split <;> omega
      rw [at_set hrd.1 hj8 (by omega), if_neg (by unfold rd; split <;> split <;> omega)]
    · rw [at_set hrd.1 hrd.1 (by omega), if_pos rfl]
  cases hn : nn with
  | false =>
    have hc00 : c = 0 := nz hn
    have e6 : x6 = true := by show (!nn) = true; rw [hn]; rfl
    have p1 : loopV spPush x31 = some (1, [.i 1, .i R, .i f, .i c, .b true, .i R, .ls [.i b], .ls (x19.set (rd f c R).toNat (.i b))]) := by
      show loopV spPush [.i x4, .b true, .i x4, .i x4, .i 0, .i R, .i f, .i c, .b true, .i R, .ls [.i x17], .ls x19] = _
      rw [e4, e17]
      exact push1 (by omega) R1 f0 (by omega) c0 hc (by show ((List.replicate R.toNat (D.i 0)).length : Int) = R; simp; omega)
    have e33 : x33 = true := by show (F3 6 (D.ls x31)).toB = true; rw [H6, show (D.ls x31).toL = x31 from rfl, p1]; rfl
    have e60 : x60 = x19.set (rd f c R).toNat (.i b) := by show (((F3 8 (D.ls x31)).toL).getD 7 (.i 0)).toL = _; rw [H8, show (D.ls x31).toL = x31 from rfl, p1]; rfl
    rw [if_pos e0, if_neg e2, if_pos ((if_neg e5).trans ((if_pos e6).trans e9)), if_pos ((if_neg e5).trans ((if_pos e6).trans e14)), if_pos ((if_neg e5).trans ((if_pos e6).trans e33)), if_pos ((if_neg e5).trans (if_pos e6)), if_pos ((if_neg e5).trans (if_pos e6)), if_neg e5, if_pos e6, e54, e56, e60]
    have hl : (x19.length : Int) = R := by show ((List.replicate R.toNat (D.i 0)).length : Int) = R; simp; omega
    exact ⟨true, R, _, rfl, ⟨R0, R1, f0, f1, by omega, by omega, (fun hh => by cases hh), fun _ => ⟨rfl, by rw [List.length_set]; exact hl⟩⟩, fun j hj0 hj => by omega, (others x19 hl).2⟩
  | true =>
    obtain ⟨hal, hAl⟩ := Al hn
    subst hal
    have e6 : ¬ x6 = true := by show ¬ (!nn) = true; rw [hn]; decide
    have p1 : loopV spPush x49 = some (1, [.i 1, .i al, .i f, .i c, .b nn, .i al, .ls [.i b], .ls (A.set (rd f c al).toNat (.i b))]) := by
      show loopV spPush [.i x4, .b true, .i x4, .i x4, .i 0, .i al, .i f, .i c, .b nn, .i al, .ls [.i x17], .ls A] = _
      rw [e4, e17]
      exact push1 (by omega) R1 f0 (by omega) c0 hc hAl
    have e51 : x51 = true := by show (F3 6 (D.ls x49)).toB = true; rw [H6, show (D.ls x49).toL = x49 from rfl, p1]; rfl
    have e64 : x64 = A.set (rd f c al).toNat (.i b) := by show (((F3 8 (D.ls x49)).toL).getD 7 (.i 0)).toL = _; rw [H8, show (D.ls x49).toL = x49 from rfl, p1]; rfl
    rw [if_pos e0, if_neg e2, if_pos ((if_neg e5).trans (if_neg e6)), if_pos ((if_neg e5).trans (if_neg e6)), if_pos ((if_neg e5).trans (if_neg e6)), if_pos ((if_neg e5).trans ((if_neg e6).trans e14)), if_pos ((if_neg e5).trans ((if_neg e6).trans e51)), if_neg e5, if_neg e6, e54, e56, e64]
    exact ⟨_, al, _, rfl, ⟨R0, R1, f0, f1, by omega, by omega, (fun hh => by simp at hh), fun _ => ⟨rfl, by rw [List.length_set]; exact hAl⟩⟩, (others A hAl).1, (others A hAl).2⟩
theorem takeB_loop {e was R f : Int} : ∀ (k : Nat) (nx c : Int) (nn : Bool) (al : Int) (M A : List D), SI R f c nn al A → nd M → 0 ≤ nx → e ≤ 4611686018427387904 → e - nx = k → e - nx = R - c →
    ∃ (t : Int) (nn' : Bool) (al' : Int) (M' A' : List D), loopV spTakeB [.i e, .i was, .i nx, .i R, .i f, .i c, .b nn, .i al, .ls M, .ls A] = some (1, [.i was, .i (nx + t), .i R, .i f, .i (c + t), .b nn', .i al', .ls M', .ls A']) ∧
      0 ≤ t ∧ t ≤ e - nx ∧ SI R f (c + t) nn' al' A' ∧ nd M' ∧ (∀ j, 0 ≤ j → j < t → mfind (nx + j) M ≠ none) ∧ (nx + t = e ∨ mfind (nx + t) M = none) ∧
      (∀ q, mfind q M' = if nx ≤ q ∧ q < nx + t then none else mfind q M) ∧ (M'.length : Int) = (M.length : Int) - t ∧
      (∀ j, 0 ≤ j → j < c → at' A' (rd f j R) = at' A (rd f j R)) ∧ (∀ j, 0 ≤ j → j < t → at' A' (rd f (c + j) R) = (mfind (nx + j) M).getD 0) := by
  have stop : ∀ (nx c : Int) (nn : Bool) (al : Int) (M A : List D), SI R f c nn al A → nd M → nx ≤ e → (nx = e ∨ mfind nx M = none) → spTakeB [.i e, .i was, .i nx, .i R, .i f, .i c, .b nn, .i al, .ls M, .ls A] = some (1, [.i was, .i nx, .i R, .i f, .i c, .b nn, .i al, .ls M, .ls A]) →
      ∃ (t : Int) (nn' : Bool) (al' : Int) (M' A' : List D), loopV spTakeB [.i e, .i was, .i nx, .i R, .i f, .i c, .b nn, .i al, .ls M, .ls A] = some (1, [.i was, .i (nx + t), .i R, .i f, .i (c + t), .b nn', .i al', .ls M', .ls A']) ∧
      0 ≤ t ∧ t ≤ e - nx ∧ SI R f (c + t) nn' al' A' ∧ nd M' ∧ (∀ j, 0 ≤ j → j < t → mfind (nx + j) M ≠ none) ∧ (nx + t = e ∨ mfind (nx + t) M = none) ∧
      (∀ q, mfind q M' = if nx ≤ q ∧ q < nx + t then none else mfind q M) ∧ (M'.length : Int) = (M.length : Int) - t ∧
      (∀ j, 0 ≤ j → j < c → at' A' (rd f j R) = at' A (rd f j R)) ∧ (∀ j, 0 ≤ j → j < t → at' A' (rd f (c + j) R) = (mfind (nx + j) M).getD 0) := by
    intro nx c nn al M A hI hM hle hst hs
    refine ⟨0, nn, al, M, A, ?_, by omega, by omega, by rw [show c + 0 = c by omega]; exact hI, hM, fun j h1 h2 => by omega, by rw [show nx + 0 = nx by omega]; exact hst, fun q => by rw [if_neg (by omega)], by omega, fun _ _ _ => rfl, fun j h1 h2 => by omega⟩
    rw [show nx + 0 = nx by omega, show c + 0 = c by omega]
    exact loopV_out (j := 0) hs
  intro k
  induction k with
  | zero =>
    intro nx c nn al M A hI hM h0 he hk hR
    exact stop nx c nn al M A hI hM (by omega) (.inl (by omega)) (takeB_out (by omega))
  | succ k ih =>
    intro nx c nn al M A hI hM h0 he hk hR
    cases hm : mfind nx M with
    | none => exact stop nx c nn al M A hI hM (by omega) (.inr hm) (takeB_gone (by omega) hm)
    | some b =>
      obtain ⟨nn1, al1, A1, hs, hI1, hA1, hA1b⟩ := takeB_step (was := was) hI (by omega) h0 he (by omega) hm
      obtain ⟨t, nn', al', M', A', g1, g2, g3, g4, g5, g6, g7, g8, g9, g10, g11⟩ := ih (nx + 1) (c + 1) nn1 al1 (mdel nx M) A1 hI1 (nd_mdel hM) (by omega) he (by omega) (by omega)
      have hfd : ∀ q, q ≠ nx → mfind q (mdel nx M) = mfind q M := fun q hq => by rw [mfind_mdel hM, if_neg hq]
      refine ⟨t + 1, nn', al', M', A', ?_, by omega, by omega, by rw [show c + (t + 1) = c + 1 + t by omega]; exact g4, g5, ?_, ?_, ?_, ?_, ?_, ?_⟩
      · rw [loopV_again hs, g1, show nx + 1 + t = nx + (t + 1) by omega, show c + 1 + t = c + (t + 1) by omega]
      · intro j h1 h2
        by_cases hj : j = 0
        · rw [hj, show nx + 0 = nx by omega, hm]; simp
        · have := g6 (j - 1) (by omega) (by omega)
          rw [show nx + 1 + (j - 1) = nx + j by omega, hfd _ (by omega)] at this
          exact this
      · rw [show nx + (t + 1) = nx + 1 + t by omega]
        rcases g7 with g7 | g7
        · exact .inl g7
        · right; rw [hfd _ (by omega)] at g7; exact g7
      · intro q
        rw [g8 q]
        by_cases hq : q = nx
        · subst hq
          rw [if_neg (by omega), if_pos (by omega), mfind_mdel hM, if_pos rfl]
        · rw [hfd q hq]
          by_cases hc : nx ≤ q ∧ q < nx + (t + 1)
          · rw [if_pos hc, if_pos (by omega)]
          · rw [if_neg hc, if_neg (by omega)]
      · have := len_mdel (k := nx) (M := M) (by rw [hm]; rfl)
        omega
      · intro j h1 h2
        rw [g10 j h1 (by omega), hA1 j h1 h2]
      · intro j h1 h2
        by_cases hj : j = 0
        · subst hj
          rw [show c + 0 = c by omega, show nx + 0 = nx by omega, hm, g10 c (by have := hI.c0; omega) (by omega), hA1b]; rfl
        · have := g11 (j - 1) (by omega) (by omega)
          rw [show c + 1 + (j - 1) = c + j by omega, show nx + 1 + (j - 1) = nx + j by omega, hfd _ (by omega)] at this
          exact this
theorem peekB_loop {t R f c : Int} {A : List D} {b : Bool} (hR : 0 < R) (hR2 : R ≤ 65535) (hf : 0 ≤ f) (hf2 : f < R) (ht : t ≤ c) (hcR : c ≤ R) (hA : (A.length : Int) = R) : ∀ (k : Nat) (i : Int) (B : List D), 0 ≤ i → t - i = k → (B.length : Int) = t →
    (∀ j, 0 ≤ j → j < i → at' B j = at' A (rd f j R)) →
    ∃ B', loopV spPeek [.i 0, .b true, .i t, .i t, .i i, .i R, .i f, .i c, .b b, .i R, .ls B, .ls A] = some (1, [.b true, .i t, .ls B', .i R, .i f, .i c, .b b, .i R, .ls A]) ∧ (B'.length : Int) = t ∧
      ∀ j, 0 ≤ j → j < t → at' B' j = at' A (rd f j R)
  | 0, i, B, hi, hk, hB, ho => by
    refine ⟨B, loopV_out (j := 0) ?_, hB, fun j hj0 hj => ho j hj0 (by omega)⟩
    show stepPeek 0 true t t i R f c b R B A = _
    unfold stepPeek
    extract_lets -merge x0
    rw [if_neg (by show ¬ decide (i < t) = true; simp; omega)]
  | k + 1, i, B, hi, hk, hB, ho => by
    have b8 : 0 ≤ rd f i R ∧ rd f i R < R := by unfold rd; split <;> omega
    have hs : spPeek [.i 0, .b true, .i t, .i t, .i i, .i R, .i f, .i c, .b b, .i R, .ls B, .ls A] = some (0, [.i 0, .b true, .i t, .i t, .i (i + 1), .i R, .i f, .i c, .b b, .i R, .ls (B.set i.toNat (.i (at' A (rd f i R)))), .ls A]) := by
      show stepPeek 0 true t t i R f c b R B A = _
      unfold stepPeek
      extract_lets -merge x0 x1 x2 x3 x4 x5 x6 x7 x8 x9 x10 x11 x12 x13 x14 x15 x16 x17 x18
      have e3 : x3 = f + i := by
        have e2 : x2 = f + 0 := w64_in (by omega) (by omega)
        show w64 (x2 + i) = _
        rw [e2, w64_in (by omega) (by omega)]; omega
      have e4 : x4 = rd f i R := by
        show Int.tmod x3 R = _
        rw [e3, tmod_rd (by omega) (by omega)]; rfl
      have e15 : x15 = i + 1 := w64_in (by omega) (by omega)
      have e18 : x18 = B.set i.toNat (.i (at' A (rd f i R))) := by show B.set i.toNat (.i (at' A x4)) = _; rw [e4]
      rw [if_pos (by show decide (i < t) = true; simp; omega), if_pos (by show (R != 0) = true; simp; omega),
        if_pos (by show (if decide (x4 ≥ 0) = true then decide (x4 < R) else false) = true; rw [e4, if_pos (by simpa using b8.1)]; simpa using b8.2),
        if_pos (by show decide (x4 < (A.length : Int)) = true; rw [e4, hA]; simpa using b8.2),
        if_pos (by show (if decide (i ≥ 0) = true then decide (i < t) else false) = true; rw [if_pos (by simpa using hi)]; simp; omega),
        if_pos (by show decide (i < (B.length : Int)) = true; rw [hB]; simp; omega), e15, e18]
    obtain ⟨B', h1, h2, h3⟩ := peekB_loop hR hR2 hf hf2 ht hcR hA k (i + 1) (B.set i.toNat (.i (at' A (rd f i R)))) (by omega) (by omega) (by simpa using hB) (by
      intro j hj0 hj
      rw [at_set hi hj0 (by omega)]
      by_cases h : j = i
      · subst h; rw [if_pos rfl]
      · rw [if_neg h]; exact ho j hj0 (by omega))
    exact ⟨B', (loopV_again hs).trans h1, h2, h3⟩
set_option maxHeartbeats 4000000 in
/-- Read, as it is called. -/
theorem read_spec {g h : D → D} (hg : ∀ d, g d = .b (loopV spPeek d.toL).isSome) (hh : ∀ d, h d = .ls (match loopV spPeek d.toL with | some (_, ys) => ys | none => [])) {n nx R f c : Int} {nn : Bool} {al : Int} {M A : List D} (hI : SI R f c nn al A) :
    ∃ (f' : Int) (bs : List UInt8), stepRead g h n nx R f c nn al M A = some (1, [.s bs, .i nx, .i R, .i f', .i (c - min (max n 0) c), .b nn, .i al, .ls M, .ls A]) ∧ SI R f' (c - min (max n 0) c) nn al A ∧ (bs.length : Int) = min (max n 0) c ∧
      (∀ j, 0 ≤ j → j < c - min (max n 0) c → rd f' j R = rd f (min (max n 0) c + j) R) ∧ ∀ j, 0 ≤ j → j < min (max n 0) c → bs.getD j.toNat 0 = UInt8.ofNat (at' A (rd f j R)).toNat := by
  obtain ⟨R0, R1, f0, f1, c0, c1, nz, Al⟩ := hI
  unfold stepRead
  extract_lets -merge x0 x1 x2 x3 x4 x5 x6 x7 x8 x9 x10 x11 x12 x13 x14 x15 x16 x17 x18 x19 x20 x21 x22 x23 x24 x25 x26 x27 x28 x29 x30 x31 x32 x33 x34 x35 x36 x37 x38 x39 x40 x41 x42 x43 x44 x45 x46 x47 x48 x49 x50 x51
  generalize ht : min (max n 0) c = t
  have e26 : x26 = t := by show zmin (zmax n 0) c = t; rw [zminE, zmaxE]; exact ht
  have e41 : x41 = R := by show (if x2 = true then R else R) = R; split <;> rfl
  have e49 : x49 = nn := by show (if x2 = true then nn else nn) = nn; split <;> rfl
  have e50 : x50 = al := by show (if x2 = true then al else al) = al; split <;> rfl
  have e51 : x51 = A := by show (if x2 = true then A else A) = A; split <;> rfl
  have e48 : x48 = c - t := by
    have e47 : x47 = c - t := by
      show (if (x26 == 0) = true then c else w64 (c - x26)) = _
      rw [e26]
      by_cases q : t = 0
      · rw [if_pos (by rw [q]; rfl)]; omega
      · rw [if_neg (by simpa using q), w64_in (by omega) (by omega)]
    show (if x2 = true then x47 else x47) = _
    rw [e47]; split <;> rfl
  have e29 : x29 = true := by
    show (if (x26 == 0) = true then true else (R != 0)) = true
    rw [e26]
    by_cases q : t = 0
    · rw [if_pos (by rw [q]; rfl)]
    · rw [if_neg (by simpa using q)]; simp; omega
  obtain ⟨f', e45, hf0, hf1, hfr⟩ : ∃ f', x45 = f' ∧ 0 ≤ f' ∧ (f' < R ∨ f' = 0) ∧ (∀ j, 0 ≤ j → j < c - t → rd f' j R = rd f (t + j) R) := by
    have h45 : x45 = x44 := by show (if x2 = true then x44 else x44) = x44; split <;> rfl
    by_cases q : t = 0
    · refine ⟨f, ?_, f0, f1, fun j hj0 hj => by rw [q, show (0 : Int) + j = j by omega]⟩
      rw [h45]
      show (if (x26 == 0) = true then f else x43) = f
      rw [e26, if_pos (by rw [q]; rfl)]
    · refine ⟨rd f t R, ?_, by unfold rd; split <;> omega, .inl (by unfold rd; split <;> omega), fun j hj0 hj => by unfold rd; split <;> split <;> (try split) <;> omega⟩
      rw [h45]
      show (if (x26 == 0) = true then f else Int.tmod (w64 (f + x26)) R) = _
      rw [e26, if_neg (by simpa using q), w64_in (by omega) (by omega), tmod_rd (by omega) (by omega)]; rfl
  by_cases q2 : x2 = true
  · have ht0 : t = 0 := by
      have hx : (if decide (n ≤ 0) = true then true else decide ((0 : Int) ≥ c)) = true := q2
      by_cases r : n ≤ 0
      · omega
      · rw [if_neg (by simpa using r)] at hx
        have : (0 : Int) ≥ c := by simpa using hx
        omega
    have e40 : x40 = [] := if_pos q2
    rw [if_pos (if_pos q2), if_pos (if_pos q2), if_pos ((if_pos q2).trans e29), if_pos (if_pos q2), if_pos (if_pos q2), e40, e41, e45, e48, e49, e50, e51]
    exact ⟨f', [], rfl, ⟨R0, R1, hf0, hf1, by omega, by omega, fun hq => by have := nz hq; omega, Al⟩, by simp; omega, hfr, fun j h1 h2 => by omega⟩
  · have hn : 0 < n ∧ 0 < c := by
      have hx : ¬ (if decide (n ≤ 0) = true then true else decide ((0 : Int) ≥ c)) = true := q2
      by_cases r : n ≤ 0
      · rw [if_pos (by simpa using r)] at hx; exact absurd rfl hx
      · rw [if_neg (by simpa using r)] at hx
        simp at hx
        omega
    have e4 : x4 = t := by show zmin n (w64 (c - 0)) = t; rw [zminE, w64_in (by omega) (by omega)]; omega
    have hnn : nn = true := by cases hq : nn with | true => rfl | false => have := nz hq; omega
    obtain ⟨hal, hAl⟩ := Al hnn
    obtain ⟨B, p1, p2, p3⟩ := peekB_loop (t := t) (R := R) (f := f) (c := c) (A := A) (b := nn) (by omega) R1 f0 (by omega) (by omega) c1 hAl t.toNat 0 x9 (by omega) (by omega) (by show ((List.replicate x4.toNat (D.i 0)).length : Int) = t; rw [e4]; simp; omega) (by intro j hj0 hj; omega)
    have p1 : loopV spPeek x21 = some (1, [.b true, .i t, .ls B, .i R, .i f, .i c, .b nn, .i R, .ls A]) := by
      show loopV spPeek [.i 0, .b true, .i x4, .i x4, .i 0, .i R, .i f, .i c, .b nn, .i al, .ls x9, .ls A] = _
      rw [e4, hal]; exact p1
    have e23 : x23 = true := by show (g (D.ls x21)).toB = true; rw [hg, show (D.ls x21).toL = x21 from rfl, p1]; rfl
    have e34 : D.toL x34 = B := by show ((D.toL (h (D.ls x21))).getD 2 (.i 0)).toL = B; rw [hh, show (D.ls x21).toL = x21 from rfl, p1]; rfl
    have e7 : x7 = true := by show (if decide (x4 ≥ 0) = true then decide (x4 ≤ 1099511627776) else false) = true; rw [e4, if_pos (by simp; omega)]; simp; omega
    have e36 : x36 = true := by show decide (x4 ≤ ((D.toL x34).length : Int)) = true; rw [e34, e4]; simp; omega
    have e38 : x38 = B := by
      show ((D.toL x34).drop (Int.toNat 0)).take (x4.toNat - Int.toNat 0) = B
      rw [e34, e4]
      have : t.toNat - Int.toNat 0 = B.length := by omega
      rw [this]; simp
    have e40 : x40 = strOfL B := by
      have : x40 = x39 := if_neg q2
      rw [this]; show strOfL x38 = _; rw [e38]
    rw [if_pos ((if_neg q2).trans e7), if_pos ((if_neg q2).trans e23), if_pos (if_neg q2), if_pos ((if_neg q2).trans e29), if_pos ((if_neg q2).trans e36), e40, e41, e45, e48, e49, e50, e51]
    refine ⟨f', strOfL B, rfl, ⟨R0, R1, hf0, hf1, by omega, by omega, fun hq => by have := nz hq; omega, Al⟩, by unfold strOfL; rw [List.length_map]; exact p2, hfr, fun j h1 h2 => ?_⟩
    rw [← p3 j h1 h2]
    unfold strOfL at'
    rw [List.getD_eq_getElem?_getD, List.getElem?_map, List.getD_eq_getElem?_getD, List.getElem?_eq_getElem (by omega)]; rfl
/-- Take, as it is called. M1: what is early when all of the piece is laid. -/
theorem take_spec {g3 g9 g5 g11 : D → D} (h3 : ∀ d, g3 d = .b (loopV spTakeA d.toL).isSome) (h5 : ∀ d, g5 d = .ls (match loopV spTakeA d.toL with | some (_, ys) => ys | none => []))
    (h9 : ∀ d, g9 d = .b (loopV spTakeB d.toL).isSome) (h11 : ∀ d, g11 d = .ls (match loopV spTakeB d.toL with | some (_, ys) => ys | none => [])) {p nx R f c : Int} {s : List UInt8} {nn : Bool} {al : Int} {M A : List D}
    (hI : SI R f c nn al A) (hM : nd M) (n0 : 0 ≤ nx) (n1 : nx ≤ 2305843009213693952) (p0 : 0 ≤ p) (p1 : p ≤ 1099511627776) (hs : (s.length : Int) ≤ 2305843009213693952) :
    ∃ (t : Int) (nn' : Bool) (al' : Int) (M1 M' A' : List D), stepTake g3 g9 g5 g11 p s nx R f c nn al M A = some (1, [.i t, .i (nx + t), .i R, .i f, .i (c + t), .b nn', .i al', .ls M', .ls A']) ∧
      (∀ q, mfind q M1 = if max p nx ≤ q ∧ q < p + (s.length : Int) ∧ q < nx + (R - c) ∧ mfind q M = none then some (byt s (q - p)) else mfind q M) ∧ nd M1 ∧
      0 ≤ t ∧ t ≤ R - c ∧ SI R f (c + t) nn' al' A' ∧ nd M' ∧ (∀ j, 0 ≤ j → j < t → mfind (nx + j) M1 ≠ none) ∧ (nx + t = nx + (R - c) ∨ mfind (nx + t) M1 = none) ∧
      (∀ q, mfind q M' = if nx ≤ q ∧ q < nx + t then none else mfind q M1) ∧ (M'.length : Int) = (M1.length : Int) - t ∧
      (∀ j, 0 ≤ j → j < c → at' A' (rd f j R) = at' A (rd f j R)) ∧ (∀ j, 0 ≤ j → j < t → at' A' (rd f (c + j) R) = (mfind (nx + j) M1).getD 0) := by
  have hI' := hI
  obtain ⟨R0, R1, f0, f1, c0, c1, nz, Al⟩ := hI
  unfold stepTake
  extract_lets -merge x0 x1 x2 x3 x4 x5 x6 x7 x8 x9 x10 x11 x12 x13 x14 x15 x16 x17 x18 x19 x20 x21 x22 x23 x24 x25 x26 x27 x28 x29 x30 x31 x32 x33 x34 x35 x36 x37 x38 x39 x40 x41 x42 x43 x44 x45 x46 x47 x48 x49 x50 x51
  have e2 : ¬ x2 = true := by
    show ¬ (if decide (p < 0) = true then true else decide (p > 1099511627776)) = true
    rw [if_neg (by simpa using p0)]; simpa using p1
  have e4 : x4 = nx + (R - c) := by show w64 (nx + w64 (R - c)) = _; rw [w64_in (n := R - c) (by omega) (by omega), w64_in (by omega) (by omega)]
  have e5 : x5 = max p nx := by show zmax p nx = _; rw [zmaxE]
  obtain ⟨M1, a1, a2, a3⟩ := takeA_loop (p := p) (e := nx + (R - c)) (s := s) (v4 := nx) (v5 := R) (v6 := f) (v7 := c) (v8 := nn) (v9 := al) (A := A) p0 (by omega) (max (max p nx) (min (p + (s.length : Int)) (nx + (R - c))) - max p nx).toNat (max p nx) M (by omega) (by omega) (by omega) hM
  have a1 : loopV spTakeA x17 = some (1, [.i (nx + (R - c)), .i nx, .i R, .i f, .i c, .b nn, .i al, .ls M1, .ls A]) := by
    show loopV spTakeA [.i p, .s s, .i x4, .i x5, .i nx, .i R, .i f, .i c, .b nn, .i al, .ls M, .ls A] = _
    rw [e4, e5]; exact a1
  have e19 : x19 = true := by show (g3 (D.ls x17)).toB = true; rw [h3, show (D.ls x17).toL = x17 from rfl, a1]; rfl
  have e24 : x24 = M1 := by show ((D.toL (g5 (D.ls x17))).getD 7 (.i 0)).toL = M1; rw [h5, show (D.ls x17).toL = x17 from rfl, a1]; rfl
  obtain ⟨t, nn', al', M', A', b1, b2, b3, b4, b5, b6, b7, b8, b9, b10, b11⟩ := takeB_loop (e := nx + (R - c)) (was := nx) (R := R) (f := f) (R - c).toNat nx c nn al M1 A hI' a2 n0 (by omega) (by omega) (by omega)
  have b1 : loopV spTakeB x33 = some (1, [.i nx, .i (nx + t), .i R, .i f, .i (c + t), .b nn', .i al', .ls M', .ls A']) := by
    show loopV spTakeB [.i x4, .i nx, .i nx, .i R, .i f, .i c, .b nn, .i al, .ls x24, .ls A] = _
    rw [e4, e24]; exact b1
  have e35 : x35 = true := by show (g9 (D.ls x33)).toB = true; rw [h9, show (D.ls x33).toL = x33 from rfl, b1]; rfl
  have e38 : x38 = [.i nx, .i (nx + t), .i R, .i f, .i (c + t), .b nn', .i al', .ls M', .ls A'] := by show D.toL (g11 (D.ls x33)) = _; rw [h11, show (D.ls x33).toL = x33 from rfl, b1]; rfl
  have e39 : D.toI x39 = nx + t := by show (x38.getD 1 (.i 0)).toI = _; rw [e38]; rfl
  have e40 : x40 = t := by show w64 (D.toI x39 - nx) = t; rw [e39, w64_in (by omega) (by omega)]; omega
  have e41 : x41 = nx + t := e39
  have e43 : x43 = c + t := by show (x38.getD 4 (.i 0)).toI = _; rw [e38]; rfl
  have e45 : x45 = nn' := by show (x38.getD 5 (.i 0)).toB = _; rw [e38]; rfl
  have e47 : x47 = al' := by show (x38.getD 6 (.i 0)).toI = _; rw [e38]; rfl
  have e49 : x49 = M' := by show (x38.getD 7 (.i 0)).toL = _; rw [e38]; rfl
  have e51 : x51 = A' := by show (x38.getD 8 (.i 0)).toL = _; rw [e38]; rfl
  rw [if_pos ((if_neg e2).trans e19), if_pos ((if_neg e2).trans e35), if_neg e2, e40, e41, e43, e45, e47, e49, e51]
  exact ⟨t, nn', al', M1, M', A', rfl, a3, a2, b2, by omega, b4, b5, b6, b7, b8, b9, b10, b11⟩
theorem take_far {g3 g9 g5 g11 : D → D} {p nx R f c : Int} {s : List UInt8} {nn : Bool} {al : Int} {M A : List D} (h : p < 0 ∨ p > 1099511627776) :
    stepTake g3 g9 g5 g11 p s nx R f c nn al M A = some (1, [.i 0, .i nx, .i R, .i f, .i c, .b nn, .i al, .ls M, .ls A]) := by
  unfold stepTake
  extract_lets -merge x0 x1 x2 x3 x4 x5 x6 x7 x8 x9 x10 x11 x12 x13 x14 x15 x16 x17 x18 x19 x20 x21 x22 x23 x24 x25 x26 x27 x28 x29 x30 x31 x32 x33 x34 x35 x36 x37 x38 x39 x40 x41 x42 x43 x44 x45 x46 x47 x48 x49 x50 x51
  have e2 : x2 = true := by
    show (if decide (p < 0) = true then true else decide (p > 1099511627776)) = true
    by_cases q : p < 0
    · rw [if_pos (by simpa using q)]
    · rw [if_neg (by simpa using q)]; simp; omega
  rw [if_pos (if_pos e2), if_pos (if_pos e2), if_pos e2]
/-! ### what a stream of pieces of one text holds -/
/-- distinct whole numbers in [a, b): no more than b - a of them -/
theorem nodup_len : ∀ (k : Nat) (a : Int) (l : List Int), l.Nodup → (∀ x ∈ l, a ≤ x ∧ x < a + k) → l.length ≤ k
  | 0, a, [], _, _ => by simp
  | 0, a, x :: l, _, h => by have := h x (by simp); omega
  | k + 1, a, l, hn, h => by
    have h1 := nodup_len k (a + 1) (l.erase a) (hn.erase a) (fun x hx => by
      have hx' : x ∈ l := List.mem_of_mem_erase hx
      have hne : x ≠ a := fun e => by subst e; exact (List.Nodup.not_mem_erase hn) hx
      have := h x hx'
      omega)
    by_cases ha : a ∈ l
    · have := List.length_erase_of_mem ha
      have : 0 < l.length := List.length_pos_of_mem ha
      omega
    · rw [List.erase_of_not_mem ha] at h1; omega
theorem mfind_mem {k : Int} {M : List D} (h : k ∈ M.map dkey) : mfind k M ≠ none := fun hh => mfind_none.1 hh h
theorem M_len {M : List D} {a b : Int} (hM : nd M) (hab : a ≤ b) (h : ∀ q, mfind q M ≠ none → a ≤ q ∧ q < b) : (M.length : Int) ≤ b - a := by
  have := nodup_len (b - a).toNat a (M.map dkey) hM (fun x hx => by have := h x (mfind_mem hx); omega)
  rw [List.length_map] at this
  omega
/-- T: the text; G: what has been read of it. -/
structure W (T G : List UInt8) (nx R f c : Int) (nn : Bool) (al : Int) (M A : List D) : Prop where
  si : SI R f c nn al A
  ndm : nd M
  cnx : c ≤ nx
  nxT : nx ≤ (T.length : Int)
  got : G = T.take (nx - c).toNat
  rdy : ∀ j, 0 ≤ j → j < c → at' A (rd f j R) = byt T (nx - c + j)
  erl : ∀ q v, mfind q M = some v → nx ≤ q ∧ q < (T.length : Int) ∧ q < nx + (R - c) ∧ v = byt T q
theorem byt_piece {T s : List UInt8} {p q : Int} (p0 : 0 ≤ p) (hq : p ≤ q) (hq2 : q < p + (s.length : Int)) (hs : s = (T.drop p.toNat).take s.length) : byt s (q - p) = byt T q := by
  unfold byt
  rw [hs, List.getD_eq_getElem?_getD, List.getD_eq_getElem?_getD, List.getElem?_take, if_pos (by omega), List.getElem?_drop, show p.toNat + (q - p).toNat = q.toNat by omega]
theorem byt_at {T : List UInt8} {q : Int} (h0 : 0 ≤ q) (h : q < (T.length : Int)) : UInt8.ofNat (byt T q).toNat = T.getD q.toNat 0 := by
  unfold byt
  rw [Int.toNat_natCast]
  exact UInt8.ofNat_toNat
theorem W_take {g3 g9 g5 g11 : D → D} (h3 : ∀ d, g3 d = .b (loopV spTakeA d.toL).isSome) (h5 : ∀ d, g5 d = .ls (match loopV spTakeA d.toL with | some (_, ys) => ys | none => []))
    (h9 : ∀ d, g9 d = .b (loopV spTakeB d.toL).isSome) (h11 : ∀ d, g11 d = .ls (match loopV spTakeB d.toL with | some (_, ys) => ys | none => [])) {T G : List UInt8} {p nx R f c : Int} {s : List UInt8} {nn : Bool} {al : Int} {M A : List D}
    (hW : W T G nx R f c nn al M A) (hT : (T.length : Int) ≤ 1099511627776) (p0 : 0 ≤ p) (hs : s = (T.drop p.toNat).take s.length) (ps : p + (s.length : Int) ≤ (T.length : Int)) :
    ∃ (t : Int) (nn' : Bool) (al' : Int) (M' A' : List D), stepTake g3 g9 g5 g11 p s nx R f c nn al M A = some (1, [.i t, .i (nx + t), .i R, .i f, .i (c + t), .b nn', .i al', .ls M', .ls A']) ∧
      W T G (nx + t) R f (c + t) nn' al' M' A' ∧ 0 ≤ t ∧ (p ≤ nx → nx < p + (s.length : Int) → c < R → 0 < t) := by
  obtain ⟨si, ndm, cnx, nxT, got, rdy, erl⟩ := hW
  have si' := si
  obtain ⟨R0, R1, f0, f1, c0, c1, nz, Al⟩ := si'
  obtain ⟨t, nn', al', M1, M', A', a1, a2, a3, a4, a5, a6, a7, a8, a9, a10, a11, a12, a13⟩ := take_spec h3 h5 h9 h11 (p := p) (nx := nx) (s := s) si ndm (by omega) (by omega) p0 (by omega) (by omega)
  have m1 : ∀ q v, mfind q M1 = some v → nx ≤ q ∧ q < (T.length : Int) ∧ q < nx + (R - c) ∧ v = byt T q := by
    intro q v hq
    rw [a2] at hq
    split at hq
    · rename_i h
      injection hq with hq
      refine ⟨by omega, by omega, h.2.2.1, ?_⟩
      rw [← hq]; exact byt_piece p0 (by omega) h.2.1 hs
    · exact erl q v hq
  have some1 : ∀ {q}, mfind q M1 ≠ none → ∃ v, mfind q M1 = some v := by
    intro q hq
    cases h : mfind q M1 with
    | none => exact absurd h hq
    | some v => exact ⟨v, rfl⟩
  have nt : nx + t ≤ (T.length : Int) := by
    by_cases q : t = 0
    · omega
    · obtain ⟨v, hv⟩ := some1 (a8 (t - 1) (by omega) (by omega))
      have := m1 _ _ hv
      omega
  refine ⟨t, nn', al', M', A', a1, ⟨a6, a7, by omega, nt, ?_, ?_, ?_⟩, a4, ?_⟩
  · rw [got, show nx + t - (c + t) = nx - c by omega]
  · intro j j0 j1
    rw [show nx + t - (c + t) + j = nx - c + j by omega]
    by_cases q : j < c
    · rw [a12 j j0 q]; exact rdy j j0 q
    · have e := a13 (j - c) (by omega) (by omega)
      rw [show c + (j - c) = j by omega] at e
      obtain ⟨v, hv⟩ := some1 (a8 (j - c) (by omega) (by omega))
      rw [e, hv]
      have := (m1 _ _ hv).2.2.2
      show v = _
      rw [this, show nx + (j - c) = nx - c + j by omega]
  · intro q v hq
    rw [a10] at hq
    split at hq
    · cases hq
    · rename_i h
      have := m1 q v hq
      exact ⟨by omega, this.2.1, by omega, this.2.2.2⟩
  · intro h1 h2 h3
    rcases Int.lt_or_le 0 t with q | q
    · exact q
    · exfalso
      have q : t = 0 := by omega
      subst q
      rcases a9 with h | h
      · omega
      · rw [a2] at h
        split at h
        · cases h
        · rename_i hh
          rw [show nx + 0 = nx by omega] at h hh
          exact hh ⟨by omega, h2, by omega, h⟩
theorem W_read {g h : D → D} (hg : ∀ d, g d = .b (loopV spPeek d.toL).isSome) (hh : ∀ d, h d = .ls (match loopV spPeek d.toL with | some (_, ys) => ys | none => [])) {T G : List UInt8} {n nx R f c : Int} {nn : Bool} {al : Int} {M A : List D} (hW : W T G nx R f c nn al M A) :
    ∃ (f' : Int) (bs : List UInt8), stepRead g h n nx R f c nn al M A = some (1, [.s bs, .i nx, .i R, .i f', .i (c - min (max n 0) c), .b nn, .i al, .ls M, .ls A]) ∧ W T (G ++ bs) nx R f' (c - min (max n 0) c) nn al M A := by
  obtain ⟨si, ndm, cnx, nxT, got, rdy, erl⟩ := hW
  have si' := si
  obtain ⟨R0, R1, f0, f1, c0, c1, nz, Al⟩ := si'
  obtain ⟨f', bs, a1, a2, a3, a4, a5⟩ := read_spec hg hh (n := n) (nx := nx) (M := M) si
  generalize ht : min (max n 0) c = t at *
  refine ⟨f', bs, a1, a2, ndm, by omega, nxT, ?_, ?_, ?_⟩
  · apply List.ext_getElem?
    intro i
    rw [got, List.getElem?_append, List.length_take, List.getElem?_take, List.getElem?_take]
    by_cases q : i < (nx - c).toNat
    · rw [if_pos (by omega), if_pos q, if_pos (by omega)]
    · rw [if_neg (by omega)]
      by_cases r : i < (nx - (c - t)).toNat
      · rw [if_pos r]
        have e : i - min (nx - c).toNat T.length = i - (nx - c).toNat := by omega
        rw [e]
        have e5 := a5 ((i - (nx - c).toNat : Nat) : Int) (by omega) (by omega)
        rw [rdy _ (by omega) (by omega), byt_at (by omega) (by omega), Int.toNat_natCast, show (nx - c + ((i - (nx - c).toNat : Nat) : Int)).toNat = i by omega] at e5
        rw [List.getD_eq_getElem?_getD, List.getD_eq_getElem?_getD, List.getElem?_eq_getElem (by omega), List.getElem?_eq_getElem (by omega)] at e5
        rw [List.getElem?_eq_getElem (by omega), List.getElem?_eq_getElem (by omega)]
        exact congrArg some e5
      · rw [if_neg r, List.getElem?_eq_none (by omega)]
  · intro j j0 j1
    rw [a4 j j0 j1, rdy (t + j) (by omega) (by omega), show nx - c + (t + j) = nx - (c - t) + j by omega]
  · intro q v hq
    have := erl q v hq
    exact ⟨this.1, this.2.1, by omega, this.2.2.2⟩
theorem W_len {T G : List UInt8} {nx R f c : Int} {nn : Bool} {al : Int} {M A : List D} (hW : W T G nx R f c nn al M A) : c + (M.length : Int) ≤ R := by
  obtain ⟨si, ndm, cnx, nxT, got, rdy, erl⟩ := hW
  obtain ⟨R0, R1, f0, f1, c0, c1, nz, Al⟩ := si
  have := M_len (a := nx) (b := nx + (R - c)) ndm (by omega) (fun q hq => by
    cases h : mfind q M with
    | none => exact absurd h hq
    | some v => have := erl q v h; omega)
  omega
theorem K15 (d : D) : F7 15 d = .b (spTake d.toL).isSome := by kernel_rfl
theorem K17 (d : D) : F7 17 d = .ls (match spTake d.toL with | some (_, ys) => ys | none => []) := by kernel_rfl
theorem K18 (d : D) : F7 18 d = .b (spRead d.toL).isSome := by kernel_rfl
theorem K20 (d : D) : F7 20 d = .ls (match spRead d.toL with | some (_, ys) => ys | none => []) := by kernel_rfl
theorem L15 (d : D) : F8 15 d = .b (spTake d.toL).isSome := by kernel_rfl
theorem L17 (d : D) : F8 17 d = .ls (match spTake d.toL with | some (_, ys) => ys | none => []) := by kernel_rfl
theorem L18 (d : D) : F8 18 d = .b (spRead d.toL).isSome := by kernel_rfl
theorem L20 (d : D) : F8 20 d = .ls (match spRead d.toL with | some (_, ys) => ys | none => []) := by kernel_rfl
theorem T3 (d : D) : F5 3 d = .b (loopV spTakeA d.toL).isSome := by kernel_rfl
theorem T5 (d : D) : F5 5 d = .ls (match loopV spTakeA d.toL with | some (_, ys) => ys | none => []) := by kernel_rfl
theorem T9 (d : D) : F5 9 d = .b (loopV spTakeB d.toL).isSome := by kernel_rfl
theorem T11 (d : D) : F5 11 d = .ls (match loopV spTakeB d.toL with | some (_, ys) => ys | none => []) := by kernel_rfl
theorem R12 (d : D) : F6 12 d = .b (loopV spPeek d.toL).isSome := by kernel_rfl
theorem R14 (d : D) : F6 14 d = .ls (match loopV spPeek d.toL with | some (_, ys) => ys | none => []) := by kernel_rfl
theorem w_take {T G : List UInt8} {p nx R f c : Int} {s : List UInt8} {nn : Bool} {al : Int} {M A : List D}
    (hW : W T G nx R f c nn al M A) (hT : (T.length : Int) ≤ 1099511627776) (p0 : 0 ≤ p) (hs : s = (T.drop p.toNat).take s.length) (ps : p + (s.length : Int) ≤ (T.length : Int)) :
    ∃ (t : Int) (nn' : Bool) (al' : Int) (M' A' : List D), spTake [.i p, .s s, .i nx, .i R, .i f, .i c, .b nn, .i al, .ls M, .ls A] = some (1, [.i t, .i (nx + t), .i R, .i f, .i (c + t), .b nn', .i al', .ls M', .ls A']) ∧
      W T G (nx + t) R f (c + t) nn' al' M' A' ∧ 0 ≤ t ∧ (p ≤ nx → nx < p + (s.length : Int) → c < R → 0 < t) :=
  W_take T3 T5 T9 T11 hW hT p0 hs ps
theorem w_read {T G : List UInt8} {n nx R f c : Int} {nn : Bool} {al : Int} {M A : List D} (hW : W T G nx R f c nn al M A) :
    ∃ (f' : Int) (bs : List UInt8), spRead [.i n, .i nx, .i R, .i f, .i c, .b nn, .i al, .ls M, .ls A] = some (1, [.s bs, .i nx, .i R, .i f', .i (c - min (max n 0) c), .b nn, .i al, .ls M, .ls A]) ∧ W T (G ++ bs) nx R f' (c - min (max n 0) c) nn al M A :=
  W_read R12 R14 hW
/-- every piece as the parameters bring it -/
def PieceOk (d : D) : Prop := -9223372036854775808 ≤ (d.toL.getD 1 (.i 0)).toI ∧ (d.toL.getD 1 (.i 0)).toI ≤ 9223372036854775807
theorem absE {x : Int} (h0 : -9223372036854775808 ≤ x) (h1 : x ≤ 9223372036854775807) : ∃ y, (if decide (x < 0) = true then w64 (0 - w64 (x + 1)) else x) = y ∧ 0 ≤ y ∧ y ≤ 9223372036854775807 := by
  refine ⟨_, rfl, ?_⟩
  split
  · rename_i h
    have h : x < 0 := by simpa using h
    rw [w64_in (n := x + 1) (by omega) (by omega), w64_in (by omega) (by omega)]; omega
  · rename_i h
    have h : ¬ x < 0 := by simpa using h
    omega
theorem tmod_bd {x m : Int} (h0 : 0 ≤ x) (hm : 0 < m) : 0 ≤ Int.tmod x m ∧ Int.tmod x m < m := by
  rw [Int.tmod_eq_emod_of_nonneg h0]
  exact ⟨Int.emod_nonneg _ (by omega), Int.emod_lt_of_pos _ hm⟩
theorem w64_bd (x : Int) : -9223372036854775808 ≤ w64 x ∧ w64 x ≤ 9223372036854775807 := by
  rw [w64_eq]; split <;> omega
theorem W_G {T G : List UInt8} {nx R f c : Int} {nn : Bool} {al : Int} {M A : List D} (hW : W T G nx R f c nn al M A) : (G.length : Int) = nx - c ∧ (G.length : Int) ≤ (T.length : Int) ∧ G = (T.drop (Int.toNat 0)).take (Int.toNat (G.length : Int) - Int.toNat 0) := by
  obtain ⟨si, ndm, cnx, nxT, got, rdy, erl⟩ := hW
  obtain ⟨R0, R1, f0, f1, c0, c1, nz, Al⟩ := si
  have hl : (G.length : Int) = nx - c := by rw [got, List.length_take]; omega
  refine ⟨hl, by omega, ?_⟩
  rw [hl]
  exact got
set_option maxHeartbeats 4000000 in
theorem mainA_loop {T : List UInt8} {L : List D} {R : Int} (hT : (T.length : Int) ≤ 3000) (hL : ∀ x ∈ L, PieceOk x) (hR0 : 0 < R) (hR : R ≤ 200) : ∀ (k : Nat) (i : Int) (G : List UInt8) (nx f c : Int) (nn : Bool) (al : Int) (M A : List D), 0 ≤ i → max i (min (L.length : Int) 200) - i = k → W T G nx R f c nn al M A →
    ∃ (G' : List UInt8) (nx' f' c' : Int) (nn' : Bool) (al' : Int) (M' A' : List D), loopV spMainA [.s T, .ls L, .s G, .i i, .i nx, .i R, .i f, .i c, .b nn, .i al, .ls M, .ls A] = some (2, [.s T, .s G', .i nx', .i R, .i f', .i c', .b nn', .i al', .ls M', .ls A']) ∧ W T G' nx' R f' c' nn' al' M' A'
  | 0, i, G, nx, f, c, nn, al, M, A, i0, hk, hW => by
    refine ⟨G, nx, f, c, nn, al, M, A, loopV_out (j := 1) ?_, hW⟩
    show stepMainA (F7 15) (F7 18) (F7 17) (F7 20) T L G i nx R f c nn al M A = _
    unfold stepMainA
    extract_lets -merge x0 x1 x2 x3
    rw [if_neg (by
      show ¬ (if decide (i < (L.length : Int)) = true then decide (i < 200) else false) = true
      by_cases q : i < (L.length : Int)
      · rw [if_pos (by simpa using q)]; simp; omega
      · rw [if_neg (by simpa using q)]; simp)]
  | k + 1, i, G, nx, f, c, nn, al, M, A, i0, hk, hW => by
    have hi : i < (L.length : Int) ∧ i < 200 := by omega
    suffices hs : ∃ (G' : List UInt8) (nx' f' c' : Int) (nn' : Bool) (al' : Int) (M' A' : List D), spMainA [.s T, .ls L, .s G, .i i, .i nx, .i R, .i f, .i c, .b nn, .i al, .ls M, .ls A] = some (0, [.s T, .ls L, .s G', .i (i + 1), .i nx', .i R, .i f', .i c', .b nn', .i al', .ls M', .ls A']) ∧ W T G' nx' R f' c' nn' al' M' A' by
      obtain ⟨G', nx', f', c', nn', al', M', A', h1, h2⟩ := hs
      obtain ⟨G2, nx2, f2, c2, nn2, al2, M2, A2, h3, h4⟩ := mainA_loop hT hL hR0 hR k (i + 1) G' nx' f' c' nn' al' M' A' (by omega) (by omega) h2
      exact ⟨G2, nx2, f2, c2, nn2, al2, M2, A2, (loopV_again h1).trans h3, h4⟩
    have hE : spMainA [.s T, .ls L, .s G, .i i, .i nx, .i R, .i f, .i c, .b nn, .i al, .ls M, .ls A] = stepMainA (F7 15) (F7 18) (F7 17) (F7 20) T L G i nx R f c nn al M A := rfl
    rw [hE]
    unfold stepMainA
    extract_lets -merge x0 x1 x2 x3 x4 x5 x6 x7 x8 x9 x10 x11 x12 x13 x14 x15 x16 x17 x18 x19 x20 x21 x22 x23 x24 x25 x26 x27 x28 x29 x30 x31 x32 x33 x34 x35 x36 x37 x38 x39 x40 x41 x42 x43 x44 x45 x46 x47 x48 x49 x50 x51 x52 x53 x54 x55 x56 x57 x58 x59 x60 x61 x62 x63 x64 x65 x66 x67 x68 x69 x70 x71 x72 x73 x74 x75 x76 x77 x78 x79 x80 x81 x82 x83 x84 x85 x86 x87 x88 x89 x90 x91 x92 x93 x94 x95 x96 x97 x98 x99 x100 x101 x102 x103 x104 x105 x106 x107 x108 x109 x110 x111 x112 x113 x114 x115 x116 x117 x118 x119 x120 x121
    have e1 : x1 = true := by show decide (i < (L.length : Int)) = true; simp; omega
    have e3 : x3 = true := by show (if x1 = true then decide (i < 200) else false) = true; rw [e1, if_pos rfl]; simp; omega
    have e5 : x5 = true := by show (if decide (i ≥ 0) = true then x1 else false) = true; rw [if_pos (by simpa using i0), e1]
    have e7 : x7 = (T.length : Int) + 1 := w64_in (n := x6 + 1) (by show _ ≤ (T.length : Int) + 1; omega) (by show (T.length : Int) + 1 ≤ _; omega)
    have e8 : x8 = true := by show (x7 != 0) = true; rw [e7]; simp; omega
    have hx9 : PieceOk x9 := by
      refine hL _ ?_
      show L.getD i.toNat (.i 0) ∈ L
      rw [List.getD_eq_getElem?_getD, List.getElem?_eq_getElem (by omega)]
      exact List.getElem_mem _
    obtain ⟨y, ey, y0, y1⟩ := absE hx9.1 hx9.2
    have e15 : x15 = y := ey
    have b16 : 0 ≤ x16 ∧ x16 < (T.length : Int) + 1 := by
      have := tmod_bd (x := y) (m := (T.length : Int) + 1) y0 (by omega)
      show 0 ≤ Int.tmod x15 x7 ∧ Int.tmod x15 x7 < _
      rw [e15, e7]; exact this
    have e18 : x18 = (T.length : Int) - x16 + 1 := by
      have e17 : x17 = (T.length : Int) - x16 := w64_in (n := x6 - x16) (by show _ ≤ (T.length : Int) - x16; omega) (by show (T.length : Int) - x16 ≤ _; omega)
      show w64 (x17 + 1) = _
      rw [e17, w64_in (by omega) (by omega)]
    have e19 : x19 = true := by show (x18 != 0) = true; rw [e18]; simp; omega
    obtain ⟨z, ez, z0, z1⟩ := absE (w64_bd (x22 * 7)).1 (w64_bd (x22 * 7)).2
    have e27 : x27 = z := ez
    have b28 : 0 ≤ x28 ∧ x28 < (T.length : Int) - x16 + 1 := by
      have := tmod_bd (x := z) (m := (T.length : Int) - x16 + 1) z0 (by omega)
      show 0 ≤ Int.tmod x27 x18 ∧ Int.tmod x27 x18 < _
      rw [e27, e18]; exact this
    have e29 : x29 = x16 + x28 := w64_in (by omega) (by omega)
    have e36 : x36 = true := by
      show (if decide (x29 ≥ 0) = true then (if decide (x29 ≤ (T.length : Int)) = true then (if decide (x16 ≥ 0) = true then decide (x16 ≤ x29) else false) else false) else false) = true
      rw [e29, if_pos (by simp; omega), if_pos (by simp; omega), if_pos (by simp; omega)]; simp; omega
    have l37 : (x37.length : Int) = x28 := by
      show (((T.drop (Int.toNat x16)).take (Int.toNat x29 - Int.toNat x16)).length : Int) = _
      rw [e29, List.length_take, List.length_drop]; omega
    have s37 : x37 = (T.drop x16.toNat).take x37.length := by
      rw [show x37.length = Int.toNat x29 - Int.toNat x16 by rw [e29]; omega]
    obtain ⟨t, nn1, al1, M1, A1, k1, k2, k3, k4⟩ := w_take hW (by omega) b16.1 s37 (by omega)
    have k1 : spTake x47 = some (1, [.i t, .i (nx + t), .i R, .i f, .i (c + t), .b nn1, .i al1, .ls M1, .ls A1]) := k1
    have e49 : x49 = true := by show (F7 15 (D.ls x47)).toB = true; rw [K15, show (D.ls x47).toL = x47 from rfl, k1]; rfl
    have e56 : x56 = [.i t, .i (nx + t), .i R, .i f, .i (c + t), .b nn1, .i al1, .ls M1, .ls A1] := by show (F7 17 (D.ls x47)).toL = _; rw [K17, show (D.ls x47).toL = x47 from rfl, k1]; rfl
    have e57 : D.toI x57 = nx + t := by show (x56.getD 1 (.i 0)).toI = _; rw [e56]; rfl
    have e59 : D.toI x59 = c + t := by show (x56.getD 4 (.i 0)).toI = _; rw [e56]; rfl
    have e61 : D.toB x61 = nn1 := by show (x56.getD 5 (.i 0)).toB = _; rw [e56]; rfl
    have e63 : D.toI x63 = al1 := by show (x56.getD 6 (.i 0)).toI = _; rw [e56]; rfl
    have e65 : D.toL x65 = M1 := by show (x56.getD 7 (.i 0)).toL = _; rw [e56]; rfl
    have e67 : D.toL x67 = A1 := by show (x56.getD 8 (.i 0)).toL = _; rw [e56]; rfl
    have e52 : x52 = true := by show (if x51 = true then x5 else true) = true; rw [e5]; split <;> rfl
    have e121 : x121 = i + 1 := w64_in (by omega) (by omega)
    obtain ⟨f2, bs, r1, r2⟩ := w_read (n := x54) k2
    have r1 : spRead x77 = some (1, [.s bs, .i (nx + t), .i R, .i f2, .i (c + t - min (max x54 0) (c + t)), .b nn1, .i al1, .ls M1, .ls A1]) := by
      show spRead [.i x54, .i (D.toI x57), .i R, .i f, .i (D.toI x59), .b (D.toB x61), .i (D.toI x63), .ls (D.toL x65), .ls (D.toL x67)] = _
      rw [e57, e59, e61, e63, e65, e67]; exact r1
    have e79 : x79 = true := by show (F7 18 (D.ls x77)).toB = true; rw [K18, show (D.ls x77).toL = x77 from rfl, r1]; rfl
    have e83 : x83 = [.s bs, .i (nx + t), .i R, .i f2, .i (c + t - min (max x54 0) (c + t)), .b nn1, .i al1, .ls M1, .ls A1] := by show (F7 20 (D.ls x77)).toL = _; rw [K20, show (D.ls x77).toL = x77 from rfl, r1]; rfl
    have e84 : D.toS x84 = bs := by show (x83.getD 0 (.i 0)).toS = _; rw [e83]; rfl
    have e80 : x80 = true := by show (if x51 = true then x79 else true) = true; rw [e79]; split <;> rfl
    have e104 : x104 = M1 := by show (if x51 = true then D.toL x65 else D.toL x65) = M1; rw [e65]; split <;> rfl
    -- the state after the round
    obtain ⟨G', f', c', h90, h112, h114, h103, hW'⟩ : ∃ (G' : List UInt8) (f' c' : Int), x90 = G' ∧ x112 = R ∧ x114 = f' ∧ x103 = c' ∧ W T G' (nx + t) R f' c' nn1 al1 M1 A1 := by
      by_cases q : x51 = true
      · refine ⟨G ++ bs, f2, c + t - min (max x54 0) (c + t), ?_, ?_, ?_, ?_, r2⟩
        · show (if x51 = true then G ++ D.toS x84 else G) = _; rw [if_pos q, e84]
        · show (if x51 = true then (x83.getD 2 (.i 0)).toI else R) = R; rw [if_pos q, e83]; rfl
        · show (if x51 = true then (x83.getD 3 (.i 0)).toI else f) = f2; rw [if_pos q, e83]; rfl
        · show (if x51 = true then (x83.getD 4 (.i 0)).toI else (D.toI x59)) = _; rw [if_pos q, e83]; rfl
      · refine ⟨G, f, c + t, ?_, ?_, ?_, ?_, k2⟩
        · exact if_neg q
        · exact if_neg q
        · exact if_neg q
        · show (if x51 = true then (x83.getD 4 (.i 0)).toI else (D.toI x59)) = _; rw [if_neg q, e59]
    have h110 : x110 = nx + t := by show (if x51 = true then D.toI x57 else D.toI x57) = _; rw [e57]; split <;> rfl
    have h116 : x116 = nn1 := by show (if x51 = true then (x83.getD 5 (.i 0)).toB else D.toB x61) = _; rw [e83, e61]; split <;> rfl
    have h118 : x118 = al1 := by show (if x51 = true then (x83.getD 6 (.i 0)).toI else D.toI x63) = _; rw [e83, e63]; split <;> rfl
    have h120 : x120 = A1 := by show (if x51 = true then (x83.getD 8 (.i 0)).toL else D.toL x67) = _; rw [e83, e67]; split <;> rfl
    obtain ⟨g1, g2, g3⟩ := W_G hW'
    have e88 : x88 = true := by
      show (if x51 = true then decide ((G.length : Int) + ((D.toS x84).length : Int) ≤ 9223372036854775807) else true) = true
      by_cases q : x51 = true
      · rw [if_pos q]
        have : x90 = G ++ D.toS x84 := if_pos q
        rw [h90] at this
        have hl := congrArg List.length this
        rw [List.length_append] at hl
        simp; omega
      · rw [if_neg q]
    have e91 : x91 = (G'.length : Int) := by show (x90.length : Int) = _; rw [h90]
    have e92 : x92 = false := by show decide (x91 > (T.length : Int)) = false; rw [e91]; simp; omega
    have e98 : x98 = true := by
      show (if x92 = true then true else if decide (x91 ≥ 0) = true then (if decide (x91 ≤ (T.length : Int)) = true then decide (0 ≤ x91) else false) else false) = true
      rw [e92, e91, if_neg (by simp), if_pos (by simp), if_pos (by simp; omega)]; simp
    have e101 : x101 = false := by
      show (!(x90 == (T.drop (Int.toNat 0)).take (Int.toNat x91 - Int.toNat 0))) = false
      rw [e91, h90, ← g3]; simp
    have e109 : x109 = false := by
      have hb := W_len hW'
      have c0' := hW'.si.c0
      show (if x92 = true then true else if x101 = true then true else decide (w64 (x103 + (x104.length : Int)) > 200)) = false
      rw [e92, e101, if_neg (by simp), if_neg (by simp), h103, e104, w64_in (by omega) (by omega)]
      simp; omega
    rw [if_pos e3, if_pos e5, if_pos e8, if_pos e5, if_pos e19, if_pos e36, if_pos e49, if_pos e5, if_pos e52, if_pos e80, if_pos e88, if_pos e98, if_neg (by rw [e109]; simp), h90, e121, h110, h112, h114, h103, h116, h118, e104, h120]
    exact ⟨G', nx + t, f', c', nn1, al1, M1, A1, rfl, hW'⟩
set_option maxHeartbeats 4000000 in
theorem mainB_loop {T : List UInt8} {R : Int} (hT : (T.length : Int) ≤ 3000) (hR0 : 0 < R) (hR : R ≤ 200) : ∀ (k : Nat) (i : Int) (G : List UInt8) (nx f c : Int) (nn : Bool) (al : Int) (M A : List D), 0 ≤ i → (T.length : Int) + 1 - i = k → W T G nx R f c nn al M A → (i = 0 ∨ c = 0 ∧ min (i - 1) (T.length : Int) ≤ nx) →
    ∃ (G' : List UInt8) (nx' f' c' : Int) (nn' : Bool) (al' : Int) (M' A' : List D), loopV spMainB [.s T, .s G, .i i, .i nx, .i R, .i f, .i c, .b nn, .i al, .ls M, .ls A] = some (2, [.s T, .s G', .i nx', .i R, .i f', .i c', .b nn', .i al', .ls M', .ls A']) ∧ W T G' nx' R f' c' nn' al' M' A' ∧ c' = 0 ∧ nx' = (T.length : Int)
  | 0, i, G, nx, f, c, nn, al, M, A, i0, hk, hW, hc => by
    have hn := hW.nxT
    refine ⟨G, nx, f, c, nn, al, M, A, loopV_out (j := 1) ?_, hW, by omega, by omega⟩
    show stepMainB (F8 15) (F8 18) (F8 17) (F8 20) T G i nx R f c nn al M A = _
    unfold stepMainB
    extract_lets -merge x0 x1
    rw [if_neg (by show ¬ decide (i ≤ (T.length : Int)) = true; simp; omega)]
  | k + 1, i, G, nx, f, c, nn, al, M, A, i0, hk, hW, hc => by
    have hn := hW.nxT
    have hn0 : 0 ≤ nx := by have := hW.cnx; have := hW.si.c0; omega
    suffices hs : ∃ (G' : List UInt8) (nx' f' c' : Int) (nn' : Bool) (al' : Int) (M' A' : List D), spMainB [.s T, .s G, .i i, .i nx, .i R, .i f, .i c, .b nn, .i al, .ls M, .ls A] = some (0, [.s T, .s G', .i (i + 1), .i nx', .i R, .i f', .i c', .b nn', .i al', .ls M', .ls A']) ∧ W T G' nx' R f' c' nn' al' M' A' ∧ c' = 0 ∧ min i (T.length : Int) ≤ nx' by
      obtain ⟨G', nx', f', c', nn', al', M', A', h1, h2, h5, h6⟩ := hs
      obtain ⟨G2, nx2, f2, c2, nn2, al2, M2, A2, h3, h4⟩ := mainB_loop hT hR0 hR k (i + 1) G' nx' f' c' nn' al' M' A' (by omega) (by omega) h2 (.inr ⟨h5, by omega⟩)
      exact ⟨G2, nx2, f2, c2, nn2, al2, M2, A2, (loopV_again h1).trans h3, h4⟩
    have hE : spMainB [.s T, .s G, .i i, .i nx, .i R, .i f, .i c, .b nn, .i al, .ls M, .ls A] = stepMainB (F8 15) (F8 18) (F8 17) (F8 20) T G i nx R f c nn al M A := rfl
    rw [hE]
    unfold stepMainB
    extract_lets -merge x0 x1 x2 x3 x4 x5 x6 x7 x8 x9 x10 x11 x12 x13 x14 x15 x16 x17 x18 x19 x20 x21 x22 x23 x24 x25 x26 x27 x28 x29 x30 x31 x32 x33 x34 x35 x36 x37 x38 x39 x40 x41 x42 x43 x44 x45 x46 x47 x48 x49 x50 x51 x52 x53 x54 x55 x56 x57 x58 x59 x60 x61 x62 x63 x64 x65 x66 x67 x68 x69 x70 x71 x72 x73 x74 x75 x76 x77 x78 x79 x80 x81 x82
    have e1 : x1 = true := by show decide (i ≤ (T.length : Int)) = true; simp; omega
    have e4 : x4 = false := by show (if decide (nx < 0) = true then true else decide (nx > (T.length : Int))) = false; rw [if_neg (by simp; omega)]; simp; omega
    have e11 : x11 = true := by
      show (if decide ((T.length : Int) ≥ 0) = true then (if decide ((T.length : Int) ≤ (T.length : Int)) = true then (if decide (nx ≥ 0) = true then decide (nx ≤ (T.length : Int)) else false) else false) else false) = true
      rw [if_pos (by simp), if_pos (by simp), if_pos (by simp; omega)]; simp; omega
    have l12 : (x12.length : Int) = (T.length : Int) - nx := by
      show (((T.drop (Int.toNat nx)).take (Int.toNat (T.length : Int) - Int.toNat nx)).length : Int) = _
      rw [List.length_take, List.length_drop]; omega
    have s12 : x12 = (T.drop nx.toNat).take x12.length := by
      rw [show x12.length = Int.toNat (T.length : Int) - Int.toNat nx by omega]
    obtain ⟨t, nn1, al1, M1, A1, k1, k2, k3, k4⟩ := w_take hW (by omega) hn0 s12 (by omega)
    have k1 : spTake x22 = some (1, [.i t, .i (nx + t), .i R, .i f, .i (c + t), .b nn1, .i al1, .ls M1, .ls A1]) := k1
    have e24 : x24 = true := by show (F8 15 (D.ls x22)).toB = true; rw [L15, show (D.ls x22).toL = x22 from rfl, k1]; rfl
    have e26 : x26 = [.i t, .i (nx + t), .i R, .i f, .i (c + t), .b nn1, .i al1, .ls M1, .ls A1] := by show (F8 17 (D.ls x22)).toL = _; rw [L17, show (D.ls x22).toL = x22 from rfl, k1]; rfl
    have e28 : x28 = nx + t := by show (x26.getD 1 (.i 0)).toI = _; rw [e26]; rfl
    have e30 : x30 = c + t := by show (x26.getD 4 (.i 0)).toI = _; rw [e26]; rfl
    have e32 : x32 = nn1 := by show (x26.getD 5 (.i 0)).toB = _; rw [e26]; rfl
    have e34 : x34 = al1 := by show (x26.getD 6 (.i 0)).toI = _; rw [e26]; rfl
    have e36 : x36 = M1 := by show (x26.getD 7 (.i 0)).toL = _; rw [e26]; rfl
    have e38 : x38 = A1 := by show (x26.getD 8 (.i 0)).toL = _; rw [e26]; rfl
    obtain ⟨f2, bs, r1, r2⟩ := w_read (n := 70000) k2
    have hc1 := k2.si.c1
    have hc0 := hW.si.c0
    have hz : c + t - min (max 70000 0) (c + t) = 0 := by omega
    rw [hz] at r1 r2
    have r1 : spRead x47 = some (1, [.s bs, .i (nx + t), .i R, .i f2, .i 0, .b nn1, .i al1, .ls M1, .ls A1]) := by
      show spRead [.i 70000, .i x28, .i R, .i f, .i x30, .b x32, .i x34, .ls x36, .ls x38] = _
      rw [e28, e30, e32, e34, e36, e38]; exact r1
    have e49 : x49 = true := by show (F8 18 (D.ls x47)).toB = true; rw [L18, show (D.ls x47).toL = x47 from rfl, r1]; rfl
    have e52 : x52 = [.s bs, .i (nx + t), .i R, .i f2, .i 0, .b nn1, .i al1, .ls M1, .ls A1] := by show (F8 20 (D.ls x47)).toL = _; rw [L20, show (D.ls x47).toL = x47 from rfl, r1]; rfl
    have e53 : D.toS x53 = bs := by show (x52.getD 0 (.i 0)).toS = _; rw [e52]; rfl
    have e71 : x71 = R := by show (x52.getD 2 (.i 0)).toI = _; rw [e52]; rfl
    have e73 : x73 = f2 := by show (x52.getD 3 (.i 0)).toI = _; rw [e52]; rfl
    have e75 : x75 = 0 := by show (x52.getD 4 (.i 0)).toI = _; rw [e52]; rfl
    have e77 : x77 = nn1 := by show (x52.getD 5 (.i 0)).toB = _; rw [e52]; rfl
    have e79 : x79 = al1 := by show (x52.getD 6 (.i 0)).toI = _; rw [e52]; rfl
    have e81 : x81 = A1 := by show (x52.getD 8 (.i 0)).toL = _; rw [e52]; rfl
    have e82 : x82 = i + 1 := w64_in (by omega) (by omega)
    have e57 : x57 = G ++ bs := by show G ++ D.toS x53 = _; rw [e53]
    obtain ⟨g1, g2, g3⟩ := W_G r2
    have e58 : x58 = ((G ++ bs).length : Int) := by show (x57.length : Int) = _; rw [e57]
    have e56 : x56 = true := by
      show decide ((G.length : Int) + ((D.toS x53).length : Int) ≤ 9223372036854775807) = true
      rw [e53]; rw [List.length_append] at g2; simp; omega
    have e59 : x59 = false := by show decide (x58 > (T.length : Int)) = false; rw [e58]; simp only [decide_eq_false_iff_not]; omega
    have e65 : x65 = true := by
      show (if x59 = true then true else if decide (x58 ≥ 0) = true then (if decide (x58 ≤ (T.length : Int)) = true then decide (0 ≤ x58) else false) else false) = true
      rw [e59, e58, if_neg (by simp), if_pos (by simp only [decide_eq_true_eq]; omega), if_pos (by simp only [decide_eq_true_eq]; omega)]; simp only [decide_eq_true_eq]; omega
    have e69 : x69 = false := by
      show (if x59 = true then true else !(x57 == (T.drop (Int.toNat 0)).take (Int.toNat x58 - Int.toNat 0))) = false
      rw [e59, e58, e57, ← g3]; simp
    rw [if_pos e1, if_neg (by rw [e4]; simp), if_pos e11, if_pos e24, if_pos e49, if_pos e56, if_pos e65, if_neg (by rw [e69]; simp), e57, e82, e28, e71, e73, e75, e77, e79, e36, e81]
    refine ⟨G ++ bs, nx + t, f2, 0, nn1, al1, M1, A1, rfl, r2, rfl, ?_⟩
    by_cases q : nx < (T.length : Int)
    · rcases hc with h | h
      · omega
      · have := k4 (by omega) (by omega) (by omega)
        omega
    · omega
theorem M_nil {M : List D} (h : ∀ q, mfind q M = none) : M = [] := by
  cases M with
  | nil => rfl
  | cons e r => have := h (dkey e); simp [mfind] at this
theorem W0 {T : List UInt8} {R : Int} (h0 : 0 ≤ R) (h1 : R ≤ 65535) : W T [] 0 R 0 0 false 0 [] [] :=
  ⟨⟨h0, h1, by omega, .inr rfl, by omega, h0, fun _ => rfl, fun h => by cases h⟩, List.nodup_nil, by omega, by omega, rfl, fun j h1 h2 => by omega, fun q v h => by cases h⟩
theorem pieceOk {d : D} (h : InE (.row [.bool, .int .i64, .str]) d) : PieceOk d := by
  simp only [InE] at h
  generalize hl : d.toL = l at h
  unfold PieceOk
  rw [hl]
  match l, h with
  | [], h => simp [InCs] at h
  | a :: [], h => simp [InCs] at h
  | a :: b :: r, h =>
    simp only [InCs, InC] at h
    exact h.2.1
set_option maxHeartbeats 4000000 in
theorem pure (a0 : List UInt8) (a1 : Int) (a2 : List D) (b0 : (a0.length : Int) ≤ 9223372036854775807) (b1 : -9223372036854775808 ≤ a1 ∧ a1 ≤ 9223372036854775807) (b2 : InC (.sl (.row [.bool, .int .i64, .str])) (.ls a2)) : val F9 a0 a1 a2 = true := by
  unfold val
  extract_lets -merge x0 x1 x2 x3 x4 x5 x6 x7 x8 x9 x10 x11 x12 x13 x14 x15 x16 x17 x18 x19 x20 x21 x22 x23 x24 x25 x26 x27 x28 x29 x30 x31 x32 x33 x34 x35 x36 x37 x38 x39 x40 x41 x42 x43 x44 x45 x46 x47 x48 x49 x50 x51 x52 x53 x54 x55 x56 x57 x58 x59 x60 x61 x62 x63 x64 x65 x66 x67 x68 x69 x70 x71 x72 x73 x74 x75 x76
  have hL : ∀ x ∈ a2, PieceOk x := by
    simp only [InC] at b2
    exact fun x hx => pieceOk (b2.2 x hx)
  have e1 : x1 = true := by show D.toB (F9 0 (D.ls [])) = true; rw [F_0]; rfl
  have e5 : x5 = true := by
    show (if decide ((a0.length : Int) > 3000) = true then decide ((3000 : Int) ≤ (a0.length : Int)) else true) = true
    by_cases q : (a0.length : Int) > 3000
    · rw [if_pos (by simpa using q)]; simp; omega
    · rw [if_neg (by simpa using q)]
  have hT : (x7.length : Int) ≤ 3000 := by
    show ((if decide ((a0.length : Int) > 3000) = true then (a0.drop (Int.toNat 0)).take (Int.toNat 3000 - Int.toNat 0) else a0).length : Int) ≤ 3000
    by_cases q : (a0.length : Int) > 3000
    · rw [if_pos (by simpa using q), List.length_take]
      have : Int.toNat 3000 - Int.toNat 0 = 3000 := rfl
      omega
    · rw [if_neg (by simpa using q)]; omega
  obtain ⟨y, ey, y0, y1⟩ := absE b1.1 b1.2
  have b12 : 0 ≤ x12 ∧ x12 < 200 := by
    show 0 ≤ Int.tmod x11 200 ∧ Int.tmod x11 200 < 200
    rw [show x11 = y from ey]; exact tmod_bd y0 (by omega)
  have e13 : x13 = 1 + x12 := w64_in (by omega) (by omega)
  have e15 : x15 = 1 + x12 := by show zmin (zmax x13 0) 65535 = _; rw [zminE, zmaxE, e13]; omega
  obtain ⟨G, nx, f, c, nn, al, M, A, p1, p2⟩ := mainA_loop (T := x7) (L := a2) (R := x15) hT hL (by omega) (by omega) (max 0 (min (a2.length : Int) 200) - 0).toNat 0 [] 0 0 0 false 0 [] [] (by omega) (by omega) (W0 (by omega) (by omega))
  have p1 : loopV spMainA x21 = _ := p1
  have e23 : x23 = true := by show (F9 21 (D.ls x21)).toB = true; rw [F_21, show (D.ls x21).toL = x21 from rfl, p1]; rfl
  have e26 : x26 = false := by show ((F9 22 (D.ls x21)).toI == 0) = false; rw [F_22, show (D.ls x21).toL = x21 from rfl, p1]; rfl
  have e28 : x28 = [.s x7, .s G, .i nx, .i x15, .i f, .i c, .b nn, .i al, .ls M, .ls A] := by show (F9 23 (D.ls x21)).toL = _; rw [F_23, show (D.ls x21).toL = x21 from rfl, p1]; rfl
  obtain ⟨G2, nx2, f2, c2, nn2, al2, M2, A2, q1, q2, q3, q4⟩ := mainB_loop (T := x7) (R := x15) hT (by omega) (by omega) ((x7.length : Int) + 1 - 0).toNat 0 G nx f c nn al M A (by omega) (by omega) p2 (.inl rfl)
  have q1 : loopV spMainB x57 = some (2, [.s x7, .s G2, .i nx2, .i x15, .i f2, .i c2, .b nn2, .i al2, .ls M2, .ls A2]) := by
    show loopV spMainB [.s x7, .s (x28.getD 1 (.i 0)).toS, .i 0, .i (x28.getD 2 (.i 0)).toI, .i (x28.getD 3 (.i 0)).toI, .i (x28.getD 4 (.i 0)).toI, .i (x28.getD 5 (.i 0)).toI, .b (x28.getD 6 (.i 0)).toB, .i (x28.getD 7 (.i 0)).toI, .ls (x28.getD 8 (.i 0)).toL, .ls (x28.getD 9 (.i 0)).toL] = _
    rw [e28]; exact q1
  have e59 : x59 = true := by show (F9 24 (D.ls x57)).toB = true; rw [F_24, show (D.ls x57).toL = x57 from rfl, q1]; rfl
  have e62 : x63 = false := by show ((F9 25 (D.ls x57)).toI == 0) = false; rw [F_25, show (D.ls x57).toL = x57 from rfl, q1]; rfl
  have e65 : x65 = [.s x7, .s G2, .i nx2, .i x15, .i f2, .i c2, .b nn2, .i al2, .ls M2, .ls A2] := by show (F9 26 (D.ls x57)).toL = _; rw [F_26, show (D.ls x57).toL = x57 from rfl, q1]; rfl
  have hG : G2 = x7 := by
    rw [q2.got, q3, q4, show ((x7.length : Int) - 0).toNat = x7.length by omega, List.take_length]
  have hM : M2 = [] := M_nil (fun q => by
    cases h : mfind q M2 with
    | none => rfl
    | some v => have := q2.erl q v h; omega)
  have e76 : x76 = true := by
    show (if x26 = true then false else if x63 = true then false else if ((x65.getD 1 (.i 0)).toS == x7) = true then (if (((x65.getD 8 (.i 0)).toL.length : Int) == 0) = true then ((x65.getD 5 (.i 0)).toI == 0) else false) else false) = true
    rw [e26, e62, e65, hG, hM, q3, if_neg (by simp), if_neg (by simp)]
    show (if (x7 == x7) = true then (if (((([] : List D)).length : Int) == 0) = true then ((0 : Int) == 0) else false) else false) = true
    simp
  have e60 : x60 = true := by show (if x26 = true then true else x59) = true; rw [e59]; split <;> rfl
  rw [e1, e5, e23, e60, e76]; rfl

theorem own : ownKnob Try.prog.godebug = none := by kernel_rfl
set_option maxRecDepth 100000 in
theorem lifted (os : Os) (started : os.Started) (H : Type) (enc : TypeId × Value → H) :
    ReturnsInHanded {} Try.checked os 7 .any (Rows.seqWholeSpec.pre6 enc Try.prog Try.f7 Rows.seqWholeRow.domain false) (Rows.seqWholeSpec.post enc Try.prog Try.f7 false true false false) := by
  refine returnsInHanded_of_change (C := Try.checked) own started (by kernel_rfl) Try.func7
    (ChangeSpec.witness6 (enc := enc) (C := Try.checked) false ⟨#[], #[.string .empty, .int .i64 0, .slice none 0 0], []⟩ 8 (by kernel_rfl) (by kernel_rfl) (by kernel_rfl) (by kernel_rfl)) ?_
  intro W base args ds gs before hval0 hW hcnd _
  have hval : ∀ (j : Nat) t v, Try.f7.params[j]? = some t → args[j]? = some v → Value.okWide Try.prog W .any base t v := hval0
  have hW' := hW
  obtain ⟨p, q, hA0, hV, rfl, hfz, hnd⟩ := hW
  have hA : DataW.TrodAll enc Try.prog W 0 (fun _ => true) true Try.f7.params.toList args.toList ds p := hA0
  rw [Try.params7] at hA hval
  obtain ⟨v0, vs0, d0, ds0, p0, q0, hargs, rfl, rfl, h0, r0⟩ := trodAll_cons hA
  obtain ⟨v1, vs1, d1, ds1, p1, q1, rfl, rfl, rfl, h1, r1⟩ := trodAll_cons r0
  obtain ⟨v2, vs2, d2, ds2, p2, q2, rfl, rfl, rfl, h2, r2⟩ := trodAll_cons r1
  obtain ⟨rfl, rfl, rfl⟩ := trodAll_nil r2
  obtain rfl : args = #[v0, v1, v2] := by cases args; simp_all
  obtain ⟨rfl, rfl⟩ := trodVars_none hV
  obtain ⟨a0, rfl, b0⟩ := argWide_str Try.underlying9 (hval 0 9 v0 rfl rfl)
  obtain ⟨a1, rfl, c1⟩ := argWide_int Try.underlying3 (hval 1 3 v1 rfl rfl)
  have b1 := has_i64 c1
  have hv2 := argWide_slice Try.underlying45 (hval 2 45 v2 rfl rfl)
  obtain ⟨a2, ro2, b2⟩ := arg_rsl (et := (.row [.bool, (.int .i64), .str])) (by kernel_rfl) h2 hv2
  generalize v2 = sv2 at *
  refine (law_walkF (P := Try.prog) Try.checked.mixed (n := 1000) (f := 7) (args := symArgs) (F := F9) (R := blocksOf W) (l := [.s a0, .i a1, .ls a2]) (Z := z9) (Ω := Om.none) (w := W) good9 (blocksOf_ok W) (by rw [run]; exact pure a0 a1 a2 b0 b1 b2) (vs := [.string ⟨⟨a0⟩⟩, .int .i64 a1, sv2]) (Rels.cons (rel_str rfl) (Rels.cons (rel_int rfl) (Rels.cons (rel_rsl ro2 rfl) (Rels.nil))))).mono fun e W' ⟨he, hb⟩ => ?_
  subst he
  exact ⟨_, rfl, law_post (by kernel_rfl) (by rw [Try.params7]; intro t ht; simp at ht; rcases ht with rfl | rfl | rfl <;> exact ⟨by kernel_rfl, of_decide_eq_true (by kernel_rfl)⟩) (by kernel_rfl) Try.underlying4 rfl ⟨rfl, rfl, rfl⟩ hW' hb⟩

theorem over : Rows.seqWholeRow.holds Try.pinned (OpenSpec.ofChange Rows.seqWholeSpec) :=
  OpenClaim.holds_of_wide 7 Try.f7 rfl rfl rfl rfl rfl rfl rfl ⟨rfl, rfl, rfl, rfl, rfl⟩ rfl rfl rfl rfl rfl (by kernel_rfl) Try.func7 (by kernel_rfl)
    (of_decide_eq_true (by kernel_rfl)) (by unfold Func.isWrapper; first | (rw [if_pos (by decide +kernel)]; kernel_rfl) | (rw [if_neg (by decide +kernel)]; exact ⟨rfl, rfl⟩))
    (fun os started H enc _ => lifted os started H enc)
end Go.Proofs.Ytbbippgnmllcoaa.seqWhole
namespace Go.Proofs.Ytbbippgnmllcoaa
/-- THE STATEMENT. -/
theorem seqWhole_holds : Rows.SeqWholeSaid := seqWhole.over
#print axioms seqWhole_holds
end Go.Proofs.Ytbbippgnmllcoaa
