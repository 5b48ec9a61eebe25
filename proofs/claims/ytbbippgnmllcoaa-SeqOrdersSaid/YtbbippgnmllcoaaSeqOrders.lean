/-
  SeqOrders: two streams that got the same pieces of a text, one of them the other way round, and nothing was read, hold the same and have the same bytes ready, as P17.4 says.
  No conditions: every input that can be read.
-/
import Derived.Test.YtbbippgnmllcoaaConsSeqOrders
import Derived.Test.YtbbippgnmllcoaaSyV
import Derived.Test.YtbbippgnmllcoaaRows
set_option linter.unusedVariables false
set_option linter.unusedSimpArgs false
namespace Go.Proofs.Ytbbippgnmllcoaa.seqOrders
open Go.Sy Go.ChangeShapes Go.WideShapes Go.ChangeAt Go.RowKit
/-- What 'adit/aditlaw17.SeqOrders' comes to. -/
def val (F : Nat → D → D) (v0 : List UInt8) (v1 : List D) : Bool :=
  let x0 : D := F 0 (D.ls ([] : List D))
  let x1 : Bool := (D.toB x0)
  let x2 : Int := ((v0).length : Int)
  let x3 : Bool := decide ((x2 : Int) > 2000)
  let x4 : Bool := decide ((2000 : Int) ≤ x2)
  let x5 : Bool := if x3 then x4 else true
  let x6 : List UInt8 := ((v0).drop (Int.toNat 0)).take (Int.toNat 2000 - Int.toNat 0)
  let x7 : List UInt8 := if x3 then x6 else v0
  let x8 : Int := ((v1).length : Int)
  let x9 : Bool := decide ((x8 : Int) > 100)
  let x10 : Int := if x9 then 100 else x8
  let x11 : List D := (D.i x10) :: ([(D.i 0), (D.i 0), (D.i 0), (D.i 0), (D.b false), (D.i 0), (D.ls []), (D.i 0), (D.b false), (D.i 0), (D.ls []), (D.ls []), (D.ls [])] : List D)
  let x12 : List D := (D.ls v1) :: x11
  let x13 : List D := (D.s x7) :: x12
  let x14 : D := F 15 (D.ls x13)
  let x15 : Bool := (D.toB x14)
  let x16 : D := F 17 (D.ls x13)
  let x17 : List D := (D.toL x16)
  let x18 : D := (x17).getD 1 (D.i 0)
  let x19 : D := (x17).getD 2 (D.i 0)
  let x20 : Bool := ((D.toI x18) : Int) != (D.toI x19)
  let x21 : D := (x17).getD 6 (D.i 0)
  let x22 : Int := (((D.toL x21)).length : Int)
  let x23 : D := (x17).getD 10 (D.i 0)
  let x24 : Int := (((D.toL x23)).length : Int)
  let x25 : Bool := (x22 : Int) != x24
  let x26 : D := (x17).getD 3 (D.i 0)
  let x27 : D := (x17).getD 7 (D.i 0)
  let x28 : Bool := ((D.toI x26) : Int) != (D.toI x27)
  let x29 : Int := w64 (2000 - (D.toI x26))
  let x30 : Int := w64 (2000 - (D.toI x27))
  let x31 : Bool := (x29 : Int) != x30
  let x32 : Bool := if x28 then true else x31
  let x33 : Bool := if x25 then true else x32
  let x34 : Bool := if x20 then true else x33
  let x35 : Int := (D.toI x18)
  let x36 : Int := (D.toI x26)
  let x37 : D := (x17).getD 4 (D.i 0)
  let x38 : Bool := (D.toB x37)
  let x39 : D := (x17).getD 5 (D.i 0)
  let x40 : Int := (D.toI x39)
  let x41 : List D := (D.toL x21)
  let x42 : D := (x17).getD 11 (D.i 0)
  let x43 : List D := (D.toL x42)
  let x44 : List D := (D.ls x43) :: ([] : List D)
  let x45 : List D := (D.ls x41) :: x44
  let x46 : List D := (D.i x40) :: x45
  let x47 : List D := (D.b x38) :: x46
  let x48 : List D := (D.i x36) :: x47
  let x49 : List D := (D.i 0) :: x48
  let x50 : List D := (D.i 2000) :: x49
  let x51 : List D := (D.i x35) :: x50
  let x52 : List D := (D.i 5000) :: x51
  let x53 : D := F 21 (D.ls x52)
  let x54 : Bool := (D.toB x53)
  let x55 : Bool := if x34 then true else x54
  let x56 : Int := (D.toI x19)
  let x57 : Int := (D.toI x27)
  let x58 : D := (x17).getD 8 (D.i 0)
  let x59 : Bool := (D.toB x58)
  let x60 : D := (x17).getD 9 (D.i 0)
  let x61 : Int := (D.toI x60)
  let x62 : List D := (D.toL x23)
  let x63 : D := (x17).getD 12 (D.i 0)
  let x64 : List D := (D.toL x63)
  let x65 : List D := (D.ls x64) :: ([] : List D)
  let x66 : List D := (D.ls x62) :: x65
  let x67 : List D := (D.i x61) :: x66
  let x68 : List D := (D.b x59) :: x67
  let x69 : List D := (D.i x57) :: x68
  let x70 : List D := (D.i 0) :: x69
  let x71 : List D := (D.i 2000) :: x70
  let x72 : List D := (D.i x56) :: x71
  let x73 : List D := (D.i 5000) :: x72
  let x74 : D := F 21 (D.ls x73)
  let x75 : Bool := (D.toB x74)
  let x76 : Bool := if x34 then true else x75
  let x77 : D := F 23 (D.ls x52)
  let x78 : List D := (D.toL x77)
  let x79 : D := (x78).getD 0 (D.i 0)
  let x80 : D := F 23 (D.ls x73)
  let x81 : List D := (D.toL x80)
  let x82 : D := (x81).getD 0 (D.i 0)
  let x83 : Bool := ((D.toS x79) : List UInt8) == (D.toS x82)
  let x84 : Int := (((D.toS x79)).length : Int)
  let x85 : Bool := decide ((x84 : Int) ≥ 0)
  let x86 : Int := ((x7).length : Int)
  let x87 : Bool := decide ((x84 : Int) ≤ x86)
  let x88 : Bool := decide ((0 : Int) ≤ x84)
  let x89 : Bool := if x87 then x88 else false
  let x90 : Bool := if x85 then x89 else false
  let x91 : Bool := if x83 then x90 else true
  let x92 : Bool := if x34 then true else x91
  let x93 : List UInt8 := ((x7).drop (Int.toNat 0)).take (Int.toNat x84 - Int.toNat 0)
  let x94 : Bool := ((D.toS x79) : List UInt8) == x93
  let x95 : Bool := if x83 then x94 else false
  let x96 : Bool := if x34 then false else x95
  (x1 && (x5 && (x15 && (x55 && (x76 && (x92 && x96))))))
def symArgs : List SV := [.str (.var 0), .rsl (.row [.bool, (.int .i64), .str]) (.var 1)]
set_option maxRecDepth 100000 in
theorem run (F : Nat → D → D) (R : Nat → Option (List Value)) (v0 : List UInt8) (v1 : List D) : (evFun Try.prog z8 1000 9 symArgs []).okB (envL F R [.s v0, .ls v1]) = val F v0 v1 := by kernel_rfl

theorem zmaxE (x y : Int) : zmax x y = max x y := by unfold zmax; split <;> omega
theorem zminE (x y : Int) : zmin x y = min x y := by unfold zmin; split <;> omega
def rd (f j R : Int) : Int := if f + j < R then f + j else f + j - R
theorem tmod_rd {x R : Int} (h0 : 0 ≤ x) (h1 : x < 2 * R) : Int.tmod x R = if x < R then x else x - R := by
  rw [Int.tmod_eq_emod_of_nonneg h0]
  split
  · exact Int.emod_eq_of_lt h0 (by assumption)
  · rename_i h
    have e : x % R = (x - R) % R := by rw [Int.sub_emod_right]
    rw [e]
    exact Int.emod_eq_of_lt (by omega) (by omega)
def at' (A : List D) (p : Int) : Int := (A.getD p.toNat (.i 0)).toI
theorem at_set {A : List D} {p q : Int} {n : Int} (hp : 0 ≤ p) (hq : 0 ≤ q) (hl : p < (A.length : Int)) : at' (A.set p.toNat (.i n)) q = if q = p then n else at' A q := by
  unfold at'
  rw [List.getD_eq_getElem?_getD, List.getD_eq_getElem?_getD]
  by_cases h : q = p
  · subst h
    rw [if_pos rfl, List.getElem?_set_self (by omega)]; rfl
  · rw [if_neg h, List.getElem?_set_ne (by omega)]
/-! ### maps -/
theorem mfind_mput (k k' v : Int) : ∀ M : List D, mfind k (mput k' v M) = if k = k' then some v else mfind k M
  | [] => by
    simp only [mput, mfind]
    have e1 : dkey (.ls [.i k', .i v]) = k' := rfl
    have e2 : dval (.ls [.i k', .i v]) = v := rfl
    rw [e1, e2]
    by_cases h : k' = k
    · rw [if_pos h, if_pos h.symm]
    · rw [if_neg h, if_neg (fun hh => h hh.symm)]
  | e :: r => by
    simp only [mput]
    have e1 : dkey (.ls [.i k', .i v]) = k' := rfl
    have e2 : dval (.ls [.i k', .i v]) = v := rfl
    by_cases h : dkey e = k'
    · rw [if_pos h]
      simp only [mfind]
      rw [e1, e2, h]
      by_cases hk : k' = k
      · rw [if_pos hk, if_pos hk.symm]
      · rw [if_neg hk, if_neg hk, if_neg (fun hh => hk hh.symm)]
    · rw [if_neg h]
      simp only [mfind]
      by_cases hk : dkey e = k
      · rw [if_pos hk, if_pos hk, if_neg (by rw [← hk]; exact h)]
      · rw [if_neg hk, if_neg hk]; exact mfind_mput k k' v r
/-- no key twice -/
def nd (M : List D) : Prop := (M.map dkey).Nodup
theorem mfind_none {k : Int} : ∀ {M : List D}, mfind k M = none ↔ k ∉ M.map dkey
  | [] => by simp [mfind]
  | e :: r => by
    simp only [mfind, List.map_cons, List.mem_cons, not_or]
    by_cases h : dkey e = k
    · rw [if_pos h]; simp [h]
    · rw [if_neg h, mfind_none]
      exact ⟨fun hh => ⟨fun q => h q.symm, hh⟩, fun hh => hh.2⟩
theorem mput_keys (k v : Int) : ∀ M : List D, (mput k v M).map dkey = if (mfind k M).isSome then M.map dkey else M.map dkey ++ [k]
  | [] => rfl
  | e :: r => by
    by_cases h : dkey e = k
    · have hf : mfind k (e :: r) = some (dval e) := by simp only [mfind]; rw [if_pos h]
      have hp : mput k v (e :: r) = .ls [.i k, .i v] :: r := by simp only [mput]; rw [if_pos h]
      rw [hf, hp]
      simp only [List.map_cons, Option.isSome_some, if_true]
      rw [h]; rfl
    · have hf : mfind k (e :: r) = mfind k r := by simp only [mfind]; rw [if_neg h]
      have hp : mput k v (e :: r) = e :: mput k v r := by simp only [mput]; rw [if_neg h]
      rw [hf, hp, List.map_cons, mput_keys k v r]
      split <;> rfl
theorem nd_mput {k v : Int} {M : List D} (h : nd M) : nd (mput k v M) := by
  unfold nd at *
  rw [mput_keys]
  split
  · exact h
  · rename_i hn
    have hk : k ∉ M.map dkey := mfind_none.1 (by cases hq : mfind k M with | none => rfl | some x => rw [hq] at hn; exact absurd rfl hn)
    rw [List.nodup_append]
    exact ⟨h, by simp, fun a ha b hb => by simp at hb; subst hb; rintro rfl; exact hk ha⟩
theorem mdel_keys (k : Int) : ∀ M : List D, (mdel k M).map dkey = (M.map dkey).erase k
  | [] => rfl
  | e :: r => by
    simp only [mdel, List.map_cons]
    by_cases h : dkey e = k
    · rw [if_pos h, h, List.erase_cons_head]
    · rw [if_neg h, List.map_cons, mdel_keys k r, List.erase_cons_tail (by simpa using h)]
theorem nd_mdel {k : Int} {M : List D} (h : nd M) : nd (mdel k M) := by
  unfold nd at *
  rw [mdel_keys]; exact h.erase k
theorem mfind_mdel {k k' : Int} : ∀ {M : List D}, nd M → mfind k (mdel k' M) = if k = k' then none else mfind k M
  | [], _ => by simp [mdel, mfind]
  | e :: r, h => by
    have hr : nd r := (List.nodup_cons.1 h).2
    have he : dkey e ∉ r.map dkey := (List.nodup_cons.1 h).1
    simp only [mdel]
    by_cases hk : dkey e = k'
    · rw [if_pos hk]
      by_cases hkk : k = k'
      · rw [if_pos hkk, mfind_none, hkk, ← hk]; exact he
      · rw [if_neg hkk]; simp only [mfind]; rw [if_neg (by rw [hk]; exact fun q => hkk q.symm)]
    · rw [if_neg hk]
      simp only [mfind]
      by_cases hq : dkey e = k
      · rw [if_pos hq, if_pos hq, if_neg (by rw [← hq]; exact hk)]
      · rw [if_neg hq, if_neg hq]; exact mfind_mdel hr
theorem len_mput (k v : Int) (M : List D) : (mput k v M).length = if (mfind k M).isSome then M.length else M.length + 1 := by
  have h := congrArg List.length (mput_keys k v M)
  rw [List.length_map] at h
  rw [h]
  split
  · rw [List.length_map]
  · rw [List.length_append, List.length_map]; rfl
theorem len_mdel {k : Int} {M : List D} (h : (mfind k M).isSome = true) : (mdel k M).length + 1 = M.length := by
  have hl := congrArg List.length (mdel_keys k M)
  rw [List.length_map] at hl
  have hm : k ∈ M.map dkey := by
    rcases Classical.em (k ∈ M.map dkey) with q | q
    · exact q
    · rw [mfind_none.2 q] at h; cases h
  rw [List.length_erase_of_mem hm, List.length_map] at hl
  have : 0 < M.length := by have := List.length_pos_of_mem hm; rwa [List.length_map] at this
  omega
/-! ### the loops of Take -/
def byt (s : List UInt8) (j : Int) : Int := ((s.getD j.toNat 0).toNat : Int)
theorem takeA_loop {p e : Int} {s : List UInt8} {v4 v5 v6 v7 : Int} {v8 : Bool} {v9 : Int} {A : List D} (p0 : 0 ≤ p) (hs : p + (s.length : Int) ≤ 4611686018427387904) : ∀ (k : Nat) (a : Int) (M : List D), p ≤ a → a ≤ 4611686018427387904 → max a (min (p + (s.length : Int)) e) - a = k → nd M →
    ∃ M', loopV spTakeA [.i p, .s s, .i e, .i a, .i v4, .i v5, .i v6, .i v7, .b v8, .i v9, .ls M, .ls A] = some (1, [.i e, .i v4, .i v5, .i v6, .i v7, .b v8, .i v9, .ls M', .ls A]) ∧ nd M' ∧
      ∀ q, mfind q M' = if a ≤ q ∧ q < p + (s.length : Int) ∧ q < e ∧ mfind q M = none then some (byt s (q - p)) else mfind q M
  | 0, a, M, pa, pa2, hk, hM => by
    refine ⟨M, loopV_out (j := 0) ?_, hM, fun q => by rw [if_neg (by omega)]⟩
    show stepTakeA p s e a v4 v5 v6 v7 v8 v9 M A = _
    unfold stepTakeA
    extract_lets -merge x0 x1 x2 x3
    have e1 : x1 = p + (s.length : Int) := w64_in (by omega) (by omega)
    have e2 : x2 = min (p + (s.length : Int)) e := by show zmin x1 e = _; rw [zminE, e1]
    rw [if_neg (by show ¬ decide (a < x2) = true; rw [e2]; simp; omega)]
  | k + 1, a, M, pa, pa2, hk, hM => by
    have hlt : a < p + (s.length : Int) ∧ a < e := by omega
    have hst : spTakeA [.i p, .s s, .i e, .i a, .i v4, .i v5, .i v6, .i v7, .b v8, .i v9, .ls M, .ls A] = some (0, [.i p, .s s, .i e, .i (a + 1), .i v4, .i v5, .i v6, .i v7, .b v8, .i v9, .ls (if mfind a M = none then mput a (byt s (a - p)) M else M), .ls A]) := by
      show stepTakeA p s e a v4 v5 v6 v7 v8 v9 M A = _
      unfold stepTakeA
      extract_lets -merge x0 x1 x2 x3 x4 x5 x6 x7 x8 x9 x10 x11 x12 x13 x14
      have e1 : x1 = p + (s.length : Int) := w64_in (by omega) (by omega)
      have e2 : x2 = min (p + (s.length : Int)) e := by show zmin x1 e = _; rw [zminE, e1]
      have e6 : x6 = a - p := w64_in (by omega) (by omega)
      have e9 : x9 = true := by
        show (if decide (x6 ≥ 0) = true then decide (x6 < (s.length : Int)) else false) = true
        rw [e6, if_pos (by simp; omega)]; simp; omega
      have e10 : x10 = true := by show (if x5 = true then x9 else true) = true; rw [e9]; simp
      have e11 : x11 = a + 1 := w64_in (by omega) (by omega)
      have e14 : x14 = if mfind a M = none then mput a (byt s (a - p)) M else M := by
        show (if (!(mfind a M).isSome) = true then mput a (byt s x6) M else M) = _
        rw [e6]
        cases hq : mfind a M with
        | none => rw [if_pos rfl, if_pos (by rfl)]
        | some x => rw [if_neg (by simp), if_neg (by simp)]
      rw [if_pos (by show decide (a < x2) = true; rw [e2]; simp; omega), if_pos e10, e11, e14]
    have hM2 : nd (if mfind a M = none then mput a (byt s (a - p)) M else M) := by split; exact nd_mput hM; exact hM
    obtain ⟨M', h1, h2, h3⟩ := takeA_loop (p := p) (e := e) (s := s) (v4 := v4) (v5 := v5) (v6 := v6) (v7 := v7) (v8 := v8) (v9 := v9) (A := A) p0 hs k (a + 1) _ (by omega) (by omega) (by omega) hM2
    refine ⟨M', (loopV_again hst).trans h1, h2, fun q => ?_⟩
    rw [h3 q]
    by_cases hqa : q = a
    · subst hqa
      rw [if_neg (by omega)]
      by_cases hn : mfind q M = none
      · rw [if_pos hn, mfind_mput, if_pos rfl, if_pos ⟨by omega, hlt.1, hlt.2, hn⟩]
      · rw [if_neg hn, if_neg (fun h => hn h.2.2.2)]
    · have hf : mfind q (if mfind a M = none then mput a (byt s (a - p)) M else M) = mfind q M := by
        split
        · rw [mfind_mput, if_neg hqa]
        · rfl
      rw [hf]
      by_cases hc : a ≤ q ∧ q < p + (s.length : Int) ∧ q < e ∧ mfind q M = none
      · rw [if_pos ⟨by omega, hc.2.1, hc.2.2.1, hc.2.2.2⟩, if_pos hc]
      · rw [if_neg (fun h => hc ⟨by omega, h.2.1, h.2.2.1, h.2.2.2⟩), if_neg hc]
theorem push1 {R f c b : Int} {nn : Bool} {A : List D} (hR : 0 < R) (hR2 : R ≤ 65535) (hf : 0 ≤ f) (hf2 : f < R) (hc : 0 ≤ c) (hc2 : c < R) (hA : (A.length : Int) = R) :
    loopV spPush [.i 1, .b true, .i 1, .i 1, .i 0, .i R, .i f, .i c, .b nn, .i R, .ls [.i b], .ls A] = some (1, [.i 1, .i R, .i f, .i c, .b nn, .i R, .ls [.i b], .ls (A.set (rd f c R).toNat (.i b))]) := by
  have hs : spPush [.i 1, .b true, .i 1, .i 1, .i 0, .i R, .i f, .i c, .b nn, .i R, .ls [.i b], .ls A] = some (0, [.i 1, .b true, .i 1, .i 1, .i 1, .i R, .i f, .i c, .b nn, .i R, .ls [.i b], .ls (A.set (rd f c R).toNat (.i b))]) := by
    show stepPush 1 true 1 1 0 R f c nn R [.i b] A = _
    unfold stepPush
    extract_lets -merge x0 x1 x2 x3 x4 x5 x6 x7 x8 x9 x10 x11 x12 x13 x14 x15 x16 x17 x18
    have b9 : 0 ≤ rd f c R ∧ rd f c R < R := by unfold rd; split <;> omega
    have e8 : x8 = f + c := by
      have e7 : x7 = f + c := w64_in (by omega) (by omega)
      show w64 (x7 + 0) = _
      rw [e7, w64_in (by omega) (by omega)]; omega
    have e9 : x9 = rd f c R := by show Int.tmod x8 R = _; rw [e8, tmod_rd (by omega) (by omega)]; rfl
    have e12 : x12 = true := by show (if decide (x9 ≥ 0) = true then decide (x9 < R) else false) = true; rw [e9, if_pos (by simpa using b9.1)]; simpa using b9.2
    have e14 : x14 = true := by show decide (x9 < (A.length : Int)) = true; rw [e9, hA]; simpa using b9.2
    have e18 : x18 = A.set (rd f c R).toNat (.i b) := by show A.set x9.toNat _ = _; rw [e9]; rfl
    rw [if_pos (show x0 = true from rfl), if_pos (show x3 = true from rfl), if_pos (show x5 = true from rfl), if_pos (by show (R != 0) = true; simp; omega), if_pos e12, if_pos e14, e18]
    rfl
  rw [loopV_again hs]
  refine loopV_out (j := 0) ?_
  rfl
/-- What holds of a ring of bytes. -/
structure SI (R f c : Int) (nn : Bool) (al : Int) (A : List D) : Prop where
  R0 : 0 ≤ R
  R1 : R ≤ 65535
  f0 : 0 ≤ f
  f1 : f < R ∨ f = 0
  c0 : 0 ≤ c
  c1 : c ≤ R
  nz : nn = false → c = 0
  Al : nn = true → al = R ∧ (A.length : Int) = R
theorem H6 (d : D) : F3 6 d = .b (loopV spPush d.toL).isSome := by kernel_rfl
theorem H8 (d : D) : F3 8 d = .ls (match loopV spPush d.toL with | some (_, ys) => ys | none => []) := by kernel_rfl
theorem takeB_out {e was R f nx c : Int} {nn : Bool} {al : Int} {M A : List D} (h : ¬ nx < e) :
    spTakeB [.i e, .i was, .i nx, .i R, .i f, .i c, .b nn, .i al, .ls M, .ls A] = some (1, [.i was, .i nx, .i R, .i f, .i c, .b nn, .i al, .ls M, .ls A]) := by
  show stepTakeB (F3 6) (F3 8) e was nx R f c nn al M A = _
  unfold stepTakeB
  extract_lets -merge x0
  rw [if_neg (by show ¬ decide (nx < e) = true; simpa using h)]
theorem takeB_gone {e was R f nx c : Int} {nn : Bool} {al : Int} {M A : List D} (h : nx < e) (hm : mfind nx M = none) :
    spTakeB [.i e, .i was, .i nx, .i R, .i f, .i c, .b nn, .i al, .ls M, .ls A] = some (1, [.i was, .i nx, .i R, .i f, .i c, .b nn, .i al, .ls M, .ls A]) := by
  show stepTakeB (F3 6) (F3 8) e was nx R f c nn al M A = _
  unfold stepTakeB
  extract_lets -merge x0 x1 x2
  rw [if_pos (by show decide (nx < e) = true; simpa using h), if_pos (by show (!(mfind nx M).isSome) = true; rw [hm]; rfl)]
theorem takeB_step {e was R f nx c : Int} {nn : Bool} {al b : Int} {M A : List D} (hI : SI R f c nn al A) (h : nx < e) (h0 : 0 ≤ nx) (he : e ≤ 4611686018427387904) (hc : c < R) (hm : mfind nx M = some b) :
    ∃ (nn' : Bool) (al' : Int) (A' : List D), spTakeB [.i e, .i was, .i nx, .i R, .i f, .i c, .b nn, .i al, .ls M, .ls A] = some (0, [.i e, .i was, .i (nx + 1), .i R, .i f, .i (c + 1), .b nn', .i al', .ls (mdel nx M), .ls A']) ∧ SI R f (c + 1) nn' al' A' ∧
      (∀ j, 0 ≤ j → j < c → at' A' (rd f j R) = at' A (rd f j R)) ∧ at' A' (rd f c R) = b := by
  obtain ⟨R0, R1, f0, f1, c0, c1, nz, Al⟩ := hI
  show ∃ nn' al' A', stepTakeB (F3 6) (F3 8) e was nx R f c nn al M A = _ ∧ _
  unfold stepTakeB
  extract_lets -merge x0 x1 x2 x3 x4 x5 x6 x7 x8 x9 x10 x11 x12 x13 x14 x15 x16 x17 x18 x19 x20 x21 x22 x23 x24 x25 x26 x27 x28 x29 x30 x31 x32 x33 x34 x35 x36 x37 x38 x39 x40 x41 x42 x43 x44 x45 x46 x47 x48 x49 x50 x51 x52 x53 x54 x55 x56 x57 x58 x59 x60 x61 x62 x63 x64
  have e0 : x0 = true := by show decide (nx < e) = true; simpa using h
  have e2 : ¬ x2 = true := by show ¬ (!(mfind nx M).isSome) = true; rw [hm]; simp
  have e3 : x3 = R - c := w64_in (by omega) (by omega)
  have e4 : x4 = 1 := by show zmin 1 x3 = 1; rw [zminE, e3]; omega
  have e5 : ¬ x5 = true := by show ¬ decide (x4 ≤ 0) = true; rw [e4]; decide
  have e14 : x14 = true := by show (if decide (x4 ≥ 0) = true then decide (x4 ≤ 1) else false) = true; rw [e4]; rfl
  have e9 : x9 = true := by show (if decide (R ≥ 0) = true then decide (R ≤ 1099511627776) else false) = true; rw [if_pos (by simpa using R0)]; simp; omega
  have e54 : x54 = nx + 1 := w64_in (by omega) (by omega)
  have e56 : x56 = c + 1 := by show w64 (c + x4) = _; rw [e4, w64_in (by omega) (by omega)]
  have e17 : x17 = b := by show (mfind nx M).getD 0 = b; rw [hm]; rfl
  have hrd : 0 ≤ rd f c R ∧ rd f c R < R := by unfold rd; split <;> omega
  have others : ∀ (A0 : List D), (A0.length : Int) = R → (∀ j, 0 ≤ j → j < c → at' (A0.set (rd f c R).toNat (.i b)) (rd f j R) = at' A0 (rd f j R)) ∧ at' (A0.set (rd f c R).toNat (.i b)) (rd f c R) = b := by
    intro A0 hA0
    refine ⟨fun j hj0 hj => ?_, ?_⟩
    · have hj8 : 0 ≤ rd f j R := by unfold rd; split <;> omega
      rw [at_set hrd.1 hj8 (by omega), if_neg (by unfold rd; split <;> split <;> omega)]
    · rw [at_set hrd.1 hrd.1 (by omega), if_pos rfl]
  cases hn : nn with
  | false =>
    have hc00 : c = 0 := nz hn
    have e6 : x6 = true := by show (!nn) = true; rw [hn]; rfl
    have p1 : loopV spPush x31 = some (1, [.i 1, .i R, .i f, .i c, .b true, .i R, .ls [.i b], .ls (x19.set (rd f c R).toNat (.i b))]) := by
      show loopV spPush [.i x4, .b true, .i x4, .i x4, .i 0, .i R, .i f, .i c, .b true, .i R, .ls [.i x17], .ls x19] = _
      rw [e4, e17]
      exact push1 (by omega) R1 f0 (by omega) c0 hc (by show ((List.replicate R.toNat (D.i 0)).length : Int) = R; simp; omega)
    have e33 : x33 = true := by show (F3 6 (D.ls x31)).toB = true; rw [H6, show (D.ls x31).toL = x31 from rfl, p1]; rfl
    have e60 : x60 = x19.set (rd f c R).toNat (.i b) := by show (((F3 8 (D.ls x31)).toL).getD 7 (.i 0)).toL = _; rw [H8, show (D.ls x31).toL = x31 from rfl, p1]; rfl
    rw [if_pos e0, if_neg e2, if_pos ((if_neg e5).trans ((if_pos e6).trans e9)), if_pos ((if_neg e5).trans ((if_pos e6).trans e14)), if_pos ((if_neg e5).trans ((if_pos e6).trans e33)), if_pos ((if_neg e5).trans (if_pos e6)), if_pos ((if_neg e5).trans (if_pos e6)), if_neg e5, if_pos e6, e54, e56, e60]
    have hl : (x19.length : Int) = R := by show ((List.replicate R.toNat (D.i 0)).length : Int) = R; simp; omega
    exact ⟨true, R, _, rfl, ⟨R0, R1, f0, f1, by omega, by omega, (fun hh => by cases hh), fun _ => ⟨rfl, by rw [List.length_set]; exact hl⟩⟩, fun j hj0 hj => by omega, (others x19 hl).2⟩
  | true =>
    obtain ⟨hal, hAl⟩ := Al hn
    subst hal
    have e6 : ¬ x6 = true := by show ¬ (!nn) = true; rw [hn]; decide
    have p1 : loopV spPush x49 = some (1, [.i 1, .i al, .i f, .i c, .b nn, .i al, .ls [.i b], .ls (A.set (rd f c al).toNat (.i b))]) := by
      show loopV spPush [.i x4, .b true, .i x4, .i x4, .i 0, .i al, .i f, .i c, .b nn, .i al, .ls [.i x17], .ls A] = _
      rw [e4, e17]
      exact push1 (by omega) R1 f0 (by omega) c0 hc hAl
    have e51 : x51 = true := by show (F3 6 (D.ls x49)).toB = true; rw [H6, show (D.ls x49).toL = x49 from rfl, p1]; rfl
    have e64 : x64 = A.set (rd f c al).toNat (.i b) := by show (((F3 8 (D.ls x49)).toL).getD 7 (.i 0)).toL = _; rw [H8, show (D.ls x49).toL = x49 from rfl, p1]; rfl
    rw [if_pos e0, if_neg e2, if_pos ((if_neg e5).trans (if_neg e6)), if_pos ((if_neg e5).trans (if_neg e6)), if_pos ((if_neg e5).trans (if_neg e6)), if_pos ((if_neg e5).trans ((if_neg e6).trans e14)), if_pos ((if_neg e5).trans ((if_neg e6).trans e51)), if_neg e5, if_neg e6, e54, e56, e64]
    exact ⟨_, al, _, rfl, ⟨R0, R1, f0, f1, by omega, by omega, (fun hh => by simp at hh), fun _ => ⟨rfl, by rw [List.length_set]; exact hAl⟩⟩, (others A hAl).1, (others A hAl).2⟩
theorem takeB_loop {e was R f : Int} : ∀ (k : Nat) (nx c : Int) (nn : Bool) (al : Int) (M A : List D), SI R f c nn al A → nd M → 0 ≤ nx → e ≤ 4611686018427387904 → e - nx = k → e - nx = R - c →
    ∃ (t : Int) (nn' : Bool) (al' : Int) (M' A' : List D), loopV spTakeB [.i e, .i was, .i nx, .i R, .i f, .i c, .b nn, .i al, .ls M, .ls A] = some (1, [.i was, .i (nx + t), .i R, .i f, .i (c + t), .b nn', .i al', .ls M', .ls A']) ∧
      0 ≤ t ∧ t ≤ e - nx ∧ SI R f (c + t) nn' al' A' ∧ nd M' ∧ (∀ j, 0 ≤ j → j < t → mfind (nx + j) M ≠ none) ∧ (nx + t = e ∨ mfind (nx + t) M = none) ∧
      (∀ q, mfind q M' = if nx ≤ q ∧ q < nx + t then none else mfind q M) ∧ (M'.length : Int) = (M.length : Int) - t ∧
      (∀ j, 0 ≤ j → j < c → at' A' (rd f j R) = at' A (rd f j R)) ∧ (∀ j, 0 ≤ j → j < t → at' A' (rd f (c + j) R) = (mfind (nx + j) M).getD 0) := by
  have stop : ∀ (nx c : Int) (nn : Bool) (al : Int) (M A : List D), SI R f c nn al A → nd M → nx ≤ e → (nx = e ∨ mfind nx M = none) → spTakeB [.i e, .i was, .i nx, .i R, .i f, .i c, .b nn, .i al, .ls M, .ls A] = some (1, [.i was, .i nx, .i R, .i f, .i c, .b nn, .i al, .ls M, .ls A]) →
      ∃ (t : Int) (nn' : Bool) (al' : Int) (M' A' : List D), loopV spTakeB [.i e, .i was, .i nx, .i R, .i f, .i c, .b nn, .i al, .ls M, .ls A] = some (1, [.i was, .i (nx + t), .i R, .i f, .i (c + t), .b nn', .i al', .ls M', .ls A']) ∧
      0 ≤ t ∧ t ≤ e - nx ∧ SI R f (c + t) nn' al' A' ∧ nd M' ∧ (∀ j, 0 ≤ j → j < t → mfind (nx + j) M ≠ none) ∧ (nx + t = e ∨ mfind (nx + t) M = none) ∧
      (∀ q, mfind q M' = if nx ≤ q ∧ q < nx + t then none else mfind q M) ∧ (M'.length : Int) = (M.length : Int) - t ∧
      (∀ j, 0 ≤ j → j < c → at' A' (rd f j R) = at' A (rd f j R)) ∧ (∀ j, 0 ≤ j → j < t → at' A' (rd f (c + j) R) = (mfind (nx + j) M).getD 0) := by
    intro nx c nn al M A hI hM hle hst hs
    refine ⟨0, nn, al, M, A, ?_, by omega, by omega, by rw [show c + 0 = c by omega]; exact hI, hM, fun j h1 h2 => by omega, by rw [show nx + 0 = nx by omega]; exact hst, fun q => by rw [if_neg (by omega)], by omega, fun _ _ _ => rfl, fun j h1 h2 => by omega⟩
    rw [show nx + 0 = nx by omega, show c + 0 = c by omega]
    exact loopV_out (j := 0) hs
  intro k
  induction k with
  | zero =>
    intro nx c nn al M A hI hM h0 he hk hR
    exact stop nx c nn al M A hI hM (by omega) (.inl (by omega)) (takeB_out (by omega))
  | succ k ih =>
    intro nx c nn al M A hI hM h0 he hk hR
    cases hm : mfind nx M with
    | none => exact stop nx c nn al M A hI hM (by omega) (.inr hm) (takeB_gone (by omega) hm)
    | some b =>
      obtain ⟨nn1, al1, A1, hs, hI1, hA1, hA1b⟩ := takeB_step (was := was) hI (by omega) h0 he (by omega) hm
      obtain ⟨t, nn', al', M', A', g1, g2, g3, g4, g5, g6, g7, g8, g9, g10, g11⟩ := ih (nx + 1) (c + 1) nn1 al1 (mdel nx M) A1 hI1 (nd_mdel hM) (by omega) he (by omega) (by omega)
      have hfd : ∀ q, q ≠ nx → mfind q (mdel nx M) = mfind q M := fun q hq => by rw [mfind_mdel hM, if_neg hq]
      refine ⟨t + 1, nn', al', M', A', ?_, by omega, by omega, by rw [show c + (t + 1) = c + 1 + t by omega]; exact g4, g5, ?_, ?_, ?_, ?_, ?_, ?_⟩
      · rw [loopV_again hs, g1, show nx + 1 + t = nx + (t + 1) by omega, show c + 1 + t = c + (t + 1) by omega]
      · intro j h1 h2
        by_cases hj : j = 0
        · rw [hj, show nx + 0 = nx by omega, hm]; simp
        · have := g6 (j - 1) (by omega) (by omega)
          rw [show nx + 1 + (j - 1) = nx + j by omega, hfd _ (by omega)] at this
          exact this
      · rw [show nx + (t + 1) = nx + 1 + t by omega]
        rcases g7 with g7 | g7
        · exact .inl g7
        · right; rw [hfd _ (by omega)] at g7; exact g7
      · intro q
        rw [g8 q]
        by_cases hq : q = nx
        · subst hq
          rw [if_neg (by omega), if_pos (by omega), mfind_mdel hM, if_pos rfl]
        · rw [hfd q hq]
          by_cases hc : nx ≤ q ∧ q < nx + (t + 1)
          · rw [if_pos hc, if_pos (by omega)]
          · rw [if_neg hc, if_neg (by omega)]
      · have := len_mdel (k := nx) (M := M) (by rw [hm]; rfl)
        omega
      · intro j h1 h2
        rw [g10 j h1 (by omega), hA1 j h1 h2]
      · intro j h1 h2
        by_cases hj : j = 0
        · subst hj
          rw [show c + 0 = c by omega, show nx + 0 = nx by omega, hm, g10 c (by have := hI.c0; omega) (by omega), hA1b]; rfl
        · have := g11 (j - 1) (by omega) (by omega)
          rw [show c + 1 + (j - 1) = c + j by omega, show nx + 1 + (j - 1) = nx + j by omega, hfd _ (by omega)] at this
          exact this
theorem peekB_loop {t R f c : Int} {A : List D} {b : Bool} (hR : 0 < R) (hR2 : R ≤ 65535) (hf : 0 ≤ f) (hf2 : f < R) (ht : t ≤ c) (hcR : c ≤ R) (hA : (A.length : Int) = R) : ∀ (k : Nat) (i : Int) (B : List D), 0 ≤ i → t - i = k → (B.length : Int) = t →
    (∀ j, 0 ≤ j → j < i → at' B j = at' A (rd f j R)) →
    ∃ B', loopV spPeek [.i 0, .b true, .i t, .i t, .i i, .i R, .i f, .i c, .b b, .i R, .ls B, .ls A] = some (1, [.b true, .i t, .ls B', .i R, .i f, .i c, .b b, .i R, .ls A]) ∧ (B'.length : Int) = t ∧
      ∀ j, 0 ≤ j → j < t → at' B' j = at' A (rd f j R)
  | 0, i, B, hi, hk, hB, ho => by
    refine ⟨B, loopV_out (j := 0) ?_, hB, fun j hj0 hj => ho j hj0 (by omega)⟩
    show stepPeek 0 true t t i R f c b R B A = _
    unfold stepPeek
    extract_lets -merge x0
    rw [if_neg (by show ¬ decide (i < t) = true; simp; omega)]
  | k + 1, i, B, hi, hk, hB, ho => by
    have b8 : 0 ≤ rd f i R ∧ rd f i R < R := by unfold rd; split <;> omega
    have hs : spPeek [.i 0, .b true, .i t, .i t, .i i, .i R, .i f, .i c, .b b, .i R, .ls B, .ls A] = some (0, [.i 0, .b true, .i t, .i t, .i (i + 1), .i R, .i f, .i c, .b b, .i R, .ls (B.set i.toNat (.i (at' A (rd f i R)))), .ls A]) := by
      show stepPeek 0 true t t i R f c b R B A = _
      unfold stepPeek
      extract_lets -merge x0 x1 x2 x3 x4 x5 x6 x7 x8 x9 x10 x11 x12 x13 x14 x15 x16 x17 x18
      have e3 : x3 = f + i := by
        have e2 : x2 = f + 0 := w64_in (by omega) (by omega)
        show w64 (x2 + i) = _
        rw [e2, w64_in (by omega) (by omega)]; omega
      have e4 : x4 = rd f i R := by
        show Int.tmod x3 R = _
        rw [e3, tmod_rd (by omega) (by omega)]; rfl
      have e15 : x15 = i + 1 := w64_in (by omega) (by omega)
      have e18 : x18 = B.set i.toNat (.i (at' A (rd f i R))) := by show B.set i.toNat (.i (at' A x4)) = _; rw [e4]
      rw [if_pos (by show decide (i < t) = true; simp; omega), if_pos (by show (R != 0) = true; simp; omega),
        if_pos (by show (if decide (x4 ≥ 0) = true then decide (x4 < R) else false) = true; rw [e4, if_pos (by simpa using b8.1)]; simpa using b8.2),
        if_pos (by show decide (x4 < (A.length : Int)) = true; rw [e4, hA]; simpa using b8.2),
        if_pos (by show (if decide (i ≥ 0) = true then decide (i < t) else false) = true; rw [if_pos (by simpa using hi)]; simp; omega),
        if_pos (by show decide (i < (B.length : Int)) = true; rw [hB]; simp; omega), e15, e18]
    obtain ⟨B', h1, h2, h3⟩ := peekB_loop hR hR2 hf hf2 ht hcR hA k (i + 1) (B.set i.toNat (.i (at' A (rd f i R)))) (by omega) (by omega) (by simpa using hB) (by
      intro j hj0 hj
      rw [at_set hi hj0 (by omega)]
      by_cases h : j = i
      · subst h; rw [if_pos rfl]
      · rw [if_neg h]; exact ho j hj0 (by omega))
    exact ⟨B', (loopV_again hs).trans h1, h2, h3⟩
set_option maxHeartbeats 4000000 in
/-- Read, as it is called. -/
theorem read_spec {g h : D → D} (hg : ∀ d, g d = .b (loopV spPeek d.toL).isSome) (hh : ∀ d, h d = .ls (match loopV spPeek d.toL with | some (_, ys) => ys | none => [])) {n nx R f c : Int} {nn : Bool} {al : Int} {M A : List D} (hI : SI R f c nn al A) :
    ∃ (f' : Int) (bs : List UInt8), stepRead g h n nx R f c nn al M A = some (1, [.s bs, .i nx, .i R, .i f', .i (c - min (max n 0) c), .b nn, .i al, .ls M, .ls A]) ∧ SI R f' (c - min (max n 0) c) nn al A ∧ (bs.length : Int) = min (max n 0) c ∧
      (∀ j, 0 ≤ j → j < c - min (max n 0) c → rd f' j R = rd f (min (max n 0) c + j) R) ∧ ∀ j, 0 ≤ j → j < min (max n 0) c → bs.getD j.toNat 0 = UInt8.ofNat (at' A (rd f j R)).toNat := by
  obtain ⟨R0, R1, f0, f1, c0, c1, nz, Al⟩ := hI
  unfold stepRead
  extract_lets -merge x0 x1 x2 x3 x4 x5 x6 x7 x8 x9 x10 x11 x12 x13 x14 x15 x16 x17 x18 x19 x20 x21 x22 x23 x24 x25 x26 x27 x28 x29 x30 x31 x32 x33 x34 x35 x36 x37 x38 x39 x40 x41 x42 x43 x44 x45 x46 x47 x48 x49 x50 x51
  generalize ht : min (max n 0) c = t
  have e26 : x26 = t := by show zmin (zmax n 0) c = t; rw [zminE, zmaxE]; exact ht
  have e41 : x41 = R := by show (if x2 = true then R else R) = R; split <;> rfl
  have e49 : x49 = nn := by show (if x2 = true then nn else nn) = nn; split <;> rfl
  have e50 : x50 = al := by show (if x2 = true then al else al) = al; split <;> rfl
  have e51 : x51 = A := by show (if x2 = true then A else A) = A; split <;> rfl
  have e48 : x48 = c - t := by
    have e47 : x47 = c - t := by
      show (if (x26 == 0) = true then c else w64 (c - x26)) = _
      rw [e26]
      by_cases q : t = 0
      · rw [if_pos (by rw [q]; rfl)]; omega
      · rw [if_neg (by simpa using q), w64_in (by omega) (by omega)]
    show (if x2 = true then x47 else x47) = _
    rw [e47]; split <;> rfl
  have e29 : x29 = true := by
    show (if (x26 == 0) = true then true else (R != 0)) = true
    rw [e26]
    by_cases q : t = 0
    · rw [if_pos (by rw [q]; rfl)]
    · rw [if_neg (by simpa using q)]; simp; omega
  obtain ⟨f', e45, hf0, hf1, hfr⟩ : ∃ f', x45 = f' ∧ 0 ≤ f' ∧ (f' < R ∨ f' = 0) ∧ (∀ j, 0 ≤ j → j < c - t → rd f' j R = rd f (t + j) R) := by
    have h45 : x45 = x44 := by show (if x2 = true then x44 else x44) = x44; split <;> rfl
    by_cases q : t = 0
    · refine ⟨f, ?_, f0, f1, fun j hj0 hj => by rw [q, show (0 : Int) + j = j by omega]⟩
      rw [h45]
      show (if (x26 == 0) = true then f else x43) = f
      rw [e26, if_pos (by rw [q]; rfl)]
    · refine ⟨rd f t R, ?_, by unfold rd; split <;> omega, .inl (by unfold rd; split <;> omega), fun j hj0 hj => by unfold rd; split <;> split <;> (try split) <;> omega⟩
      rw [h45]
      show (if (x26 == 0) = true then f else Int.tmod (w64 (f + x26)) R) = _
      rw [e26, if_neg (by simpa using q), w64_in (by omega) (by omega), tmod_rd (by omega) (by omega)]; rfl
  by_cases q2 : x2 = true
  · have ht0 : t = 0 := by
      have hx : (if decide (n ≤ 0) = true then true else decide ((0 : Int) ≥ c)) = true := q2
      by_cases r : n ≤ 0
      · omega
      · rw [if_neg (by simpa using r)] at hx
        have : (0 : Int) ≥ c := by simpa using hx
        omega
    have e40 : x40 = [] := if_pos q2
    rw [if_pos (if_pos q2), if_pos (if_pos q2), if_pos ((if_pos q2).trans e29), if_pos (if_pos q2), if_pos (if_pos q2), e40, e41, e45, e48, e49, e50, e51]
    exact ⟨f', [], rfl, ⟨R0, R1, hf0, hf1, by omega, by omega, fun hq => by have := nz hq; omega, Al⟩, by simp; omega, hfr, fun j h1 h2 => by omega⟩
  · have hn : 0 < n ∧ 0 < c := by
      have hx : ¬ (if decide (n ≤ 0) = true then true else decide ((0 : Int) ≥ c)) = true := q2
      by_cases r : n ≤ 0
      · rw [if_pos (by simpa using r)] at hx; exact absurd rfl hx
      · rw [if_neg (by simpa using r)] at hx
        simp at hx
        omega
    have e4 : x4 = t := by show zmin n (w64 (c - 0)) = t; rw [zminE, w64_in (by omega) (by omega)]; omega
    have hnn : nn = true := by cases hq : nn with | true => rfl | false => have := nz hq; omega
    obtain ⟨hal, hAl⟩ := Al hnn
    obtain ⟨B, p1, p2, p3⟩ := peekB_loop (t := t) (R := R) (f := f) (c := c) (A := A) (b := nn) (by omega) R1 f0 (by omega) (by omega) c1 hAl t.toNat 0 x9 (by omega) (by omega) (by show ((List.replicate x4.toNat (D.i 0)).length : Int) = t; rw [e4]; simp; omega) (by intro j hj0 hj; omega)
    have p1 : loopV spPeek x21 = some (1, [.b true, .i t, .ls B, .i R, .i f, .i c, .b nn, .i R, .ls A]) := by
      show loopV spPeek [.i 0, .b true, .i x4, .i x4, .i 0, .i R, .i f, .i c, .b nn, .i al, .ls x9, .ls A] = _
      rw [e4, hal]; exact p1
    have e23 : x23 = true := by show (g (D.ls x21)).toB = true; rw [hg, show (D.ls x21).toL = x21 from rfl, p1]; rfl
    have e34 : D.toL x34 = B := by show ((D.toL (h (D.ls x21))).getD 2 (.i 0)).toL = B; rw [hh, show (D.ls x21).toL = x21 from rfl, p1]; rfl
    have e7 : x7 = true := by show (if decide (x4 ≥ 0) = true then decide (x4 ≤ 1099511627776) else false) = true; rw [e4, if_pos (by simp; omega)]; simp; omega
    have e36 : x36 = true := by show decide (x4 ≤ ((D.toL x34).length : Int)) = true; rw [e34, e4]; simp; omega
    have e38 : x38 = B := by
      show ((D.toL x34).drop (Int.toNat 0)).take (x4.toNat - Int.toNat 0) = B
      rw [e34, e4]
      have : t.toNat - Int.toNat 0 = B.length := by omega
      rw [this]; simp
    have e40 : x40 = strOfL B := by
      have : x40 = x39 := if_neg q2
      rw [this]; show strOfL x38 = _; rw [e38]
    rw [if_pos ((if_neg q2).trans e7), if_pos ((if_neg q2).trans e23), if_pos (if_neg q2), if_pos ((if_neg q2).trans e29), if_pos ((if_neg q2).trans e36), e40, e41, e45, e48, e49, e50, e51]
    refine ⟨f', strOfL B, rfl, ⟨R0, R1, hf0, hf1, by omega, by omega, fun hq => by have := nz hq; omega, Al⟩, by unfold strOfL; rw [List.length_map]; exact p2, hfr, fun j h1 h2 => ?_⟩
    rw [← p3 j h1 h2]
    unfold strOfL at'
    rw [List.getD_eq_getElem?_getD, List.getElem?_map, List.getD_eq_getElem?_getD, List.getElem?_eq_getElem (by omega)]; rfl
/-- Take, as it is called. M1: what is early when all of the piece is laid. -/
theorem take_spec {g3 g9 g5 g11 : D → D} (h3 : ∀ d, g3 d = .b (loopV spTakeA d.toL).isSome) (h5 : ∀ d, g5 d = .ls (match loopV spTakeA d.toL with | some (_, ys) => ys | none => []))
    (h9 : ∀ d, g9 d = .b (loopV spTakeB d.toL).isSome) (h11 : ∀ d, g11 d = .ls (match loopV spTakeB d.toL with | some (_, ys) => ys | none => [])) {p nx R f c : Int} {s : List UInt8} {nn : Bool} {al : Int} {M A : List D}
    (hI : SI R f c nn al A) (hM : nd M) (n0 : 0 ≤ nx) (n1 : nx ≤ 2305843009213693952) (p0 : 0 ≤ p) (p1 : p ≤ 1099511627776) (hs : (s.length : Int) ≤ 2305843009213693952) :
    ∃ (t : Int) (nn' : Bool) (al' : Int) (M1 M' A' : List D), stepTake g3 g9 g5 g11 p s nx R f c nn al M A = some (1, [.i t, .i (nx + t), .i R, .i f, .i (c + t), .b nn', .i al', .ls M', .ls A']) ∧
      (∀ q, mfind q M1 = if max p nx ≤ q ∧ q < p + (s.length : Int) ∧ q < nx + (R - c) ∧ mfind q M = none then some (byt s (q - p)) else mfind q M) ∧ nd M1 ∧
      0 ≤ t ∧ t ≤ R - c ∧ SI R f (c + t) nn' al' A' ∧ nd M' ∧ (∀ j, 0 ≤ j → j < t → mfind (nx + j) M1 ≠ none) ∧ (nx + t = nx + (R - c) ∨ mfind (nx + t) M1 = none) ∧
      (∀ q, mfind q M' = if nx ≤ q ∧ q < nx + t then none else mfind q M1) ∧ (M'.length : Int) = (M1.length : Int) - t ∧
      (∀ j, 0 ≤ j → j < c → at' A' (rd f j R) = at' A (rd f j R)) ∧ (∀ j, 0 ≤ j → j < t → at' A' (rd f (c + j) R) = (mfind (nx + j) M1).getD 0) := by
  have hI' := hI
  obtain ⟨R0, R1, f0, f1, c0, c1, nz, Al⟩ := hI
  unfold stepTake
  extract_lets -merge x0 x1 x2 x3 x4 x5 x6 x7 x8 x9 x10 x11 x12 x13 x14 x15 x16 x17 x18 x19 x20 x21 x22 x23 x24 x25 x26 x27 x28 x29 x30 x31 x32 x33 x34 x35 x36 x37 x38 x39 x40 x41 x42 x43 x44 x45 x46 x47 x48 x49 x50 x51
  have e2 : ¬ x2 = true := by
    show ¬ (if decide (p < 0) = true then true else decide (p > 1099511627776)) = true
    rw [if_neg (by simpa using p0)]; simpa using p1
  have e4 : x4 = nx + (R - c) := by show w64 (nx + w64 (R - c)) = _; rw [w64_in (n := R - c) (by omega) (by omega), w64_in (by omega) (by omega)]
  have e5 : x5 = max p nx := by show zmax p nx = _; rw [zmaxE]
  obtain ⟨M1, a1, a2, a3⟩ := takeA_loop (p := p) (e := nx + (R - c)) (s := s) (v4 := nx) (v5 := R) (v6 := f) (v7 := c) (v8 := nn) (v9 := al) (A := A) p0 (by omega) (max (max p nx) (min (p + (s.length : Int)) (nx + (R - c))) - max p nx).toNat (max p nx) M (by omega) (by omega) (by omega) hM
  have a1 : loopV spTakeA x17 = some (1, [.i (nx + (R - c)), .i nx, .i R, .i f, .i c, .b nn, .i al, .ls M1, .ls A]) := by
    show loopV spTakeA [.i p, .s s, .i x4, .i x5, .i nx, .i R, .i f, .i c, .b nn, .i al, .ls M, .ls A] = _
    rw [e4, e5]; exact a1
  have e19 : x19 = true := by show (g3 (D.ls x17)).toB = true; rw [h3, show (D.ls x17).toL = x17 from rfl, a1]; rfl
  have e24 : x24 = M1 := by show ((D.toL (g5 (D.ls x17))).getD 7 (.i 0)).toL = M1; rw [h5, show (D.ls x17).toL = x17 from rfl, a1]; rfl
  obtain ⟨t, nn', al', M', A', b1, b2, b3, b4, b5, b6, b7, b8, b9, b10, b11⟩ := takeB_loop (e := nx + (R - c)) (was := nx) (R := R) (f := f) (R - c).toNat nx c nn al M1 A hI' a2 n0 (by omega) (by omega) (by omega)
  have b1 : loopV spTakeB x33 = some (1, [.i nx, .i (nx + t), .i R, .i f, .i (c + t), .b nn', .i al', .ls M', .ls A']) := by
    show loopV spTakeB [.i x4, .i nx, .i nx, .i R, .i f, .i c, .b nn, .i al, .ls x24, .ls A] = _
    rw [e4, e24]; exact b1
  have e35 : x35 = true := by show (g9 (D.ls x33)).toB = true; rw [h9, show (D.ls x33).toL = x33 from rfl, b1]; rfl
  have e38 : x38 = [.i nx, .i (nx + t), .i R, .i f, .i (c + t), .b nn', .i al', .ls M', .ls A'] := by show D.toL (g11 (D.ls x33)) = _; rw [h11, show (D.ls x33).toL = x33 from rfl, b1]; rfl
  have e39 : D.toI x39 = nx + t := by show (x38.getD 1 (.i 0)).toI = _; rw [e38]; rfl
  have e40 : x40 = t := by show w64 (D.toI x39 - nx) = t; rw [e39, w64_in (by omega) (by omega)]; omega
  have e41 : x41 = nx + t := e39
  have e43 : x43 = c + t := by show (x38.getD 4 (.i 0)).toI = _; rw [e38]; rfl
  have e45 : x45 = nn' := by show (x38.getD 5 (.i 0)).toB = _; rw [e38]; rfl
  have e47 : x47 = al' := by show (x38.getD 6 (.i 0)).toI = _; rw [e38]; rfl
  have e49 : x49 = M' := by show (x38.getD 7 (.i 0)).toL = _; rw [e38]; rfl
  have e51 : x51 = A' := by show (x38.getD 8 (.i 0)).toL = _; rw [e38]; rfl
  rw [if_pos ((if_neg e2).trans e19), if_pos ((if_neg e2).trans e35), if_neg e2, e40, e41, e43, e45, e47, e49, e51]
  exact ⟨t, nn', al', M1, M', A', rfl, a3, a2, b2, by omega, b4, b5, b6, b7, b8, b9, b10, b11⟩
theorem take_far {g3 g9 g5 g11 : D → D} {p nx R f c : Int} {s : List UInt8} {nn : Bool} {al : Int} {M A : List D} (h : p < 0 ∨ p > 1099511627776) :
    stepTake g3 g9 g5 g11 p s nx R f c nn al M A = some (1, [.i 0, .i nx, .i R, .i f, .i c, .b nn, .i al, .ls M, .ls A]) := by
  unfold stepTake
  extract_lets -merge x0 x1 x2 x3 x4 x5 x6 x7 x8 x9 x10 x11 x12 x13 x14 x15 x16 x17 x18 x19 x20 x21 x22 x23 x24 x25 x26 x27 x28 x29 x30 x31 x32 x33 x34 x35 x36 x37 x38 x39 x40 x41 x42 x43 x44 x45 x46 x47 x48 x49 x50 x51
  have e2 : x2 = true := by
    show (if decide (p < 0) = true then true else decide (p > 1099511627776)) = true
    by_cases q : p < 0
    · rw [if_pos (by simpa using q)]
    · rw [if_neg (by simpa using q)]; simp; omega
  rw [if_pos (if_pos e2), if_pos (if_pos e2), if_pos e2]
/-! ### what a stream of pieces of one text holds -/
/-- distinct whole numbers in [a, b): no more than b - a of them -/
theorem nodup_len : ∀ (k : Nat) (a : Int) (l : List Int), l.Nodup → (∀ x ∈ l, a ≤ x ∧ x < a + k) → l.length ≤ k
  | 0, a, [], _, _ => by simp
  | 0, a, x :: l, _, h => by have := h x (by simp); omega
  | k + 1, a, l, hn, h => by
    have h1 := nodup_len k (a + 1) (l.erase a) (hn.erase a) (fun x hx => by
      have hx' : x ∈ l := List.mem_of_mem_erase hx
      have hne : x ≠ a := fun e => by subst e; exact (List.Nodup.not_mem_erase hn) hx
      have := h x hx'
      omega)
    by_cases ha : a ∈ l
    · have := List.length_erase_of_mem ha
      have : 0 < l.length := List.length_pos_of_mem ha
      omega
    · rw [List.erase_of_not_mem ha] at h1; omega
theorem mfind_mem {k : Int} {M : List D} (h : k ∈ M.map dkey) : mfind k M ≠ none := fun hh => mfind_none.1 hh h
theorem M_len {M : List D} {a b : Int} (hM : nd M) (hab : a ≤ b) (h : ∀ q, mfind q M ≠ none → a ≤ q ∧ q < b) : (M.length : Int) ≤ b - a := by
  have := nodup_len (b - a).toNat a (M.map dkey) hM (fun x hx => by have := h x (mfind_mem hx); omega)
  rw [List.length_map] at this
  omega
/-- T: the text; G: what has been read of it. -/
structure W (T G : List UInt8) (nx R f c : Int) (nn : Bool) (al : Int) (M A : List D) : Prop where
  si : SI R f c nn al A
  ndm : nd M
  cnx : c ≤ nx
  nxT : nx ≤ (T.length : Int)
  got : G = T.take (nx - c).toNat
  rdy : ∀ j, 0 ≤ j → j < c → at' A (rd f j R) = byt T (nx - c + j)
  erl : ∀ q v, mfind q M = some v → nx ≤ q ∧ q < (T.length : Int) ∧ q < nx + (R - c) ∧ v = byt T q
theorem byt_piece {T s : List UInt8} {p q : Int} (p0 : 0 ≤ p) (hq : p ≤ q) (hq2 : q < p + (s.length : Int)) (hs : s = (T.drop p.toNat).take s.length) : byt s (q - p) = byt T q := by
  unfold byt
  rw [hs, List.getD_eq_getElem?_getD, List.getD_eq_getElem?_getD, List.getElem?_take, if_pos (by omega), List.getElem?_drop, show p.toNat + (q - p).toNat = q.toNat by omega]
theorem byt_at {T : List UInt8} {q : Int} (h0 : 0 ≤ q) (h : q < (T.length : Int)) : UInt8.ofNat (byt T q).toNat = T.getD q.toNat 0 := by
  unfold byt
  rw [Int.toNat_natCast]
  exact UInt8.ofNat_toNat
theorem W_take {g3 g9 g5 g11 : D → D} (h3 : ∀ d, g3 d = .b (loopV spTakeA d.toL).isSome) (h5 : ∀ d, g5 d = .ls (match loopV spTakeA d.toL with | some (_, ys) => ys | none => []))
    (h9 : ∀ d, g9 d = .b (loopV spTakeB d.toL).isSome) (h11 : ∀ d, g11 d = .ls (match loopV spTakeB d.toL with | some (_, ys) => ys | none => [])) {T G : List UInt8} {p nx R f c : Int} {s : List UInt8} {nn : Bool} {al : Int} {M A : List D}
    (hW : W T G nx R f c nn al M A) (hT : (T.length : Int) ≤ 1099511627776) (p0 : 0 ≤ p) (hs : s = (T.drop p.toNat).take s.length) (ps : p + (s.length : Int) ≤ (T.length : Int)) :
    ∃ (t : Int) (nn' : Bool) (al' : Int) (M' A' : List D), stepTake g3 g9 g5 g11 p s nx R f c nn al M A = some (1, [.i t, .i (nx + t), .i R, .i f, .i (c + t), .b nn', .i al', .ls M', .ls A']) ∧
      W T G (nx + t) R f (c + t) nn' al' M' A' ∧ 0 ≤ t ∧ (p ≤ nx → nx < p + (s.length : Int) → c < R → 0 < t) := by
  obtain ⟨si, ndm, cnx, nxT, got, rdy, erl⟩ := hW
  have si' := si
  obtain ⟨R0, R1, f0, f1, c0, c1, nz, Al⟩ := si'
  obtain ⟨t, nn', al', M1, M', A', a1, a2, a3, a4, a5, a6, a7, a8, a9, a10, a11, a12, a13⟩ := take_spec h3 h5 h9 h11 (p := p) (nx := nx) (s := s) si ndm (by omega) (by omega) p0 (by omega) (by omega)
  have m1 : ∀ q v, mfind q M1 = some v → nx ≤ q ∧ q < (T.length : Int) ∧ q < nx + (R - c) ∧ v = byt T q := by
    intro q v hq
    rw [a2] at hq
    split at hq
    · rename_i h
      injection hq with hq
      refine ⟨by omega, by omega, h.2.2.1, ?_⟩
      rw [← hq]; exact byt_piece p0 (by omega) h.2.1 hs
    · exact erl q v hq
  have some1 : ∀ {q}, mfind q M1 ≠ none → ∃ v, mfind q M1 = some v := by
    intro q hq
    cases h : mfind q M1 with
    | none => exact absurd h hq
    | some v => exact ⟨v, rfl⟩
  have nt : nx + t ≤ (T.length : Int) := by
    by_cases q : t = 0
    · omega
    · obtain ⟨v, hv⟩ := some1 (a8 (t - 1) (by omega) (by omega))
      have := m1 _ _ hv
      omega
  refine ⟨t, nn', al', M', A', a1, ⟨a6, a7, by omega, nt, ?_, ?_, ?_⟩, a4, ?_⟩
  · rw [got, show nx + t - (c + t) = nx - c by omega]
  · intro j j0 j1
    rw [show nx + t - (c + t) + j = nx - c + j by omega]
    by_cases q : j < c
    · rw [a12 j j0 q]; exact rdy j j0 q
    · have e := a13 (j - c) (by omega) (by omega)
      rw [show c + (j - c) = j by omega] at e
      obtain ⟨v, hv⟩ := some1 (a8 (j - c) (by omega) (by omega))
      rw [e, hv]
      have := (m1 _ _ hv).2.2.2
      show v = _
      rw [this, show nx + (j - c) = nx - c + j by omega]
  · intro q v hq
    rw [a10] at hq
    split at hq
    · cases hq
    · rename_i h
      have := m1 q v hq
      exact ⟨by omega, this.2.1, by omega, this.2.2.2⟩
  · intro h1 h2 h3
    rcases Int.lt_or_le 0 t with q | q
    · exact q
    · exfalso
      have q : t = 0 := by omega
      subst q
      rcases a9 with h | h
      · omega
      · rw [a2] at h
        split at h
        · cases h
        · rename_i hh
          rw [show nx + 0 = nx by omega] at h hh
          exact hh ⟨by omega, h2, by omega, h⟩
theorem W_read {g h : D → D} (hg : ∀ d, g d = .b (loopV spPeek d.toL).isSome) (hh : ∀ d, h d = .ls (match loopV spPeek d.toL with | some (_, ys) => ys | none => [])) {T G : List UInt8} {n nx R f c : Int} {nn : Bool} {al : Int} {M A : List D} (hW : W T G nx R f c nn al M A) :
    ∃ (f' : Int) (bs : List UInt8), stepRead g h n nx R f c nn al M A = some (1, [.s bs, .i nx, .i R, .i f', .i (c - min (max n 0) c), .b nn, .i al, .ls M, .ls A]) ∧ W T (G ++ bs) nx R f' (c - min (max n 0) c) nn al M A := by
  obtain ⟨si, ndm, cnx, nxT, got, rdy, erl⟩ := hW
  have si' := si
  obtain ⟨R0, R1, f0, f1, c0, c1, nz, Al⟩ := si'
  obtain ⟨f', bs, a1, a2, a3, a4, a5⟩ := read_spec hg hh (n := n) (nx := nx) (M := M) si
  generalize ht : min (max n 0) c = t at *
  refine ⟨f', bs, a1, a2, ndm, by omega, nxT, ?_, ?_, ?_⟩
  · apply List.ext_getElem?
    intro i
    rw [got, List.getElem?_append, List.length_take, List.getElem?_take, List.getElem?_take]
    by_cases q : i < (nx - c).toNat
    · rw [if_pos (by omega), if_pos q, if_pos (by omega)]
    · rw [if_neg (by omega)]
      by_cases r : i < (nx - (c - t)).toNat
      · rw [if_pos r]
        have e : i - min (nx - c).toNat T.length = i - (nx - c).toNat := by omega
        rw [e]
        have e5 := a5 ((i - (nx - c).toNat : Nat) : Int) (by omega) (by omega)
        rw [rdy _ (by omega) (by omega), byt_at (by omega) (by omega), Int.toNat_natCast, show (nx - c + ((i - (nx - c).toNat : Nat) : Int)).toNat = i by omega] at e5
        rw [List.getD_eq_getElem?_getD, List.getD_eq_getElem?_getD, List.getElem?_eq_getElem (by omega), List.getElem?_eq_getElem (by omega)] at e5
        rw [List.getElem?_eq_getElem (by omega), List.getElem?_eq_getElem (by omega)]
        exact congrArg some e5
      · rw [if_neg r, List.getElem?_eq_none (by omega)]
  · intro j j0 j1
    rw [a4 j j0 j1, rdy (t + j) (by omega) (by omega), show nx - c + (t + j) = nx - (c - t) + j by omega]
  · intro q v hq
    have := erl q v hq
    exact ⟨this.1, this.2.1, by omega, this.2.2.2⟩
theorem W_len {T G : List UInt8} {nx R f c : Int} {nn : Bool} {al : Int} {M A : List D} (hW : W T G nx R f c nn al M A) : c + (M.length : Int) ≤ R := by
  obtain ⟨si, ndm, cnx, nxT, got, rdy, erl⟩ := hW
  obtain ⟨R0, R1, f0, f1, c0, c1, nz, Al⟩ := si
  have := M_len (a := nx) (b := nx + (R - c)) ndm (by omega) (fun q hq => by
    cases h : mfind q M with
    | none => exact absurd h hq
    | some v => have := erl q v h; omega)
  omega
/-! ### what a stream holds, whatever the order -/
/-- S: the places that some piece has brought. -/
structure O (S : Int → Prop) (nx : Int) (M : List D) : Prop where
  at_ : ∀ q, 0 ≤ q → ((q < nx ∨ mfind q M ≠ none) ↔ S q)
  stop : mfind nx M = none
theorem O_take {g3 g9 g5 g11 : D → D} (h3 : ∀ d, g3 d = .b (loopV spTakeA d.toL).isSome) (h5 : ∀ d, g5 d = .ls (match loopV spTakeA d.toL with | some (_, ys) => ys | none => []))
    (h9 : ∀ d, g9 d = .b (loopV spTakeB d.toL).isSome) (h11 : ∀ d, g11 d = .ls (match loopV spTakeB d.toL with | some (_, ys) => ys | none => [])) {T G : List UInt8} {p nx R f c : Int} {s : List UInt8} {nn : Bool} {al : Int} {M A : List D} {S : Int → Prop}
    (hW : W T G nx R f c nn al M A) (hO : O S nx M) (hT : (T.length : Int) ≤ 1099511627776) (hroom : (T.length : Int) ≤ nx + (R - c)) (p0 : 0 ≤ p) (hs : s = (T.drop p.toNat).take s.length) (ps : p + (s.length : Int) ≤ (T.length : Int)) :
    ∃ (t : Int) (nn' : Bool) (al' : Int) (M' A' : List D), stepTake g3 g9 g5 g11 p s nx R f c nn al M A = some (1, [.i t, .i (nx + t), .i R, .i f, .i (c + t), .b nn', .i al', .ls M', .ls A']) ∧
      W T G (nx + t) R f (c + t) nn' al' M' A' ∧ O (fun q => S q ∨ p ≤ q ∧ q < p + (s.length : Int)) (nx + t) M' := by
  obtain ⟨t2, nn2, al2, M2, A2, b1, b2, b3, b4⟩ := W_take h3 h5 h9 h11 hW hT p0 hs ps
  obtain ⟨si, ndm, cnx, nxT, got, rdy, erl⟩ := hW
  have si' := si
  obtain ⟨R0, R1, f0, f1, c0, c1, nz, Al⟩ := si'
  obtain ⟨t, nn', al', M1, M', A', a1, a2, a3, a4, a5, a6, a7, a8, a9, a10, a11, a12, a13⟩ := take_spec h3 h5 h9 h11 (p := p) (nx := nx) (s := s) si ndm (by omega) (by omega) p0 (by omega) (by omega)
  have e := b1.symm.trans a1
  simp only [Option.some.injEq, Prod.mk.injEq, List.cons.injEq, D.i.injEq, D.b.injEq, D.ls.injEq, true_and, and_true] at e
  obtain ⟨e1, -, -, e2, e3, e4, e5⟩ := e
  subst e1 e2 e3 e4 e5
  refine ⟨t2, nn2, al2, M2, A2, b1, b2, ?_, ?_⟩
  · intro q q0
    rw [← hO.at_ q q0, a10]
    by_cases h1 : q < nx
    · exact ⟨fun _ => .inl (.inl h1), fun _ => .inl (by omega)⟩
    · by_cases h2 : q < nx + t2
      · refine ⟨fun _ => ?_, fun _ => .inl h2⟩
        have h8 := a8 (q - nx) (by omega) (by omega)
        rw [show nx + (q - nx) = q by omega, a2] at h8
        split at h8
        · rename_i h; exact .inr ⟨by omega, h.2.1⟩
        · exact .inl (.inr h8)
      · rw [if_neg (by omega), a2]
        split
        · rename_i h
          exact ⟨fun _ => .inr ⟨by omega, h.2.1⟩, fun _ => .inr (by simp)⟩
        · rename_i h
          constructor
          · rintro (h' | h')
            · omega
            · exact .inl (.inr h')
          · rintro ((h' | h') | h')
            · omega
            · exact .inr h'
            · refine .inr (fun hn => h ⟨by omega, h'.2, by omega, hn⟩)
  · rcases a9 with h | h
    · cases hq : mfind (nx + t2) M2 with
      | none => rfl
      | some v => have := b2.erl _ v hq; omega
    · rw [a10, if_neg (by omega)]; exact h
theorem len_sub : ∀ (l l' : List Int), l.Nodup → (∀ x ∈ l, x ∈ l') → l.length ≤ l'.length
  | [], _, _, _ => by simp
  | a :: l, l', hn, hs => by
    have hn' := List.nodup_cons.1 hn
    have ha : a ∈ l' := hs a (by simp)
    have := len_sub l (l'.erase a) hn'.2 (fun x hx => (List.mem_erase_of_ne (fun e => hn'.1 (by rw [← e]; exact hx))).2 (hs x (by simp [hx])))
    have := List.length_erase_of_mem ha
    have := List.length_pos_of_mem ha
    simp only [List.length_cons]; omega
/-- two streams that hold the same -/
theorem O_eq {S : Int → Prop} {nx nx' : Int} {M M' : List D} (h : O S nx M) (h' : O S nx' M') (n0 : 0 ≤ nx) (n0' : 0 ≤ nx') (hM : nd M) (hM' : nd M') (hq : ∀ q, mfind q M ≠ none → nx ≤ q) (hq' : ∀ q, mfind q M' ≠ none → nx' ≤ q) : nx = nx' ∧ M.length = M'.length := by
  have key : nx = nx' := by
    rcases Int.lt_trichotomy nx nx' with g | g | g
    · exact absurd ((h.at_ nx n0).2 ((h'.at_ nx n0).1 (.inl g))) (by rintro (q | q); omega; exact q h.stop)
    · exact g
    · exact absurd ((h'.at_ nx' n0').2 ((h.at_ nx' n0').1 (.inl g))) (by rintro (q | q); omega; exact q h'.stop)
  subst key
  refine ⟨rfl, ?_⟩
  have one : ∀ {M M' : List D}, O S nx M → O S nx M' → nd M → nd M' → (∀ q, mfind q M ≠ none → nx ≤ q) → M.length ≤ M'.length := by
    intro M M' h h' hM hM' hq
    have : ∀ k ∈ M.map dkey, k ∈ M'.map dkey := by
      intro k hk
      have hk := mfind_mem hk
      have hn := hq k hk
      have := (h'.at_ k (by omega)).2 ((h.at_ k (by omega)).1 (.inr hk))
      rcases Classical.em (k ∈ M'.map dkey) with g | g
      · exact g
      · rcases this with g' | g'
        · omega
        · exact absurd (mfind_none.2 g) g'
    have := len_sub _ _ hM this
    rwa [List.length_map, List.length_map] at this
  exact Nat.le_antisymm (one h h' hM hM' hq) (one h' h hM' hM hq')
/-- every piece as the parameters bring it -/
def PieceOk (d : D) : Prop := -9223372036854775808 ≤ (d.toL.getD 1 (.i 0)).toI ∧ (d.toL.getD 1 (.i 0)).toI ≤ 9223372036854775807
theorem absE {x : Int} (h0 : -9223372036854775808 ≤ x) (h1 : x ≤ 9223372036854775807) : ∃ y, (if decide (x < 0) = true then w64 (0 - w64 (x + 1)) else x) = y ∧ 0 ≤ y ∧ y ≤ 9223372036854775807 := by
  refine ⟨_, rfl, ?_⟩
  split
  · rename_i h
    have h : x < 0 := by simpa using h
    rw [w64_in (n := x + 1) (by omega) (by omega), w64_in (by omega) (by omega)]; omega
  · rename_i h
    have h : ¬ x < 0 := by simpa using h
    omega
theorem tmod_bd {x m : Int} (h0 : 0 ≤ x) (hm : 0 < m) : 0 ≤ Int.tmod x m ∧ Int.tmod x m < m := by
  rw [Int.tmod_eq_emod_of_nonneg h0]
  exact ⟨Int.emod_nonneg _ (by omega), Int.emod_lt_of_pos _ hm⟩
theorem w64_bd (x : Int) : -9223372036854775808 ≤ w64 x ∧ w64 x ≤ 9223372036854775807 := by
  rw [w64_eq]; split <;> omega
theorem W_G {T G : List UInt8} {nx R f c : Int} {nn : Bool} {al : Int} {M A : List D} (hW : W T G nx R f c nn al M A) : (G.length : Int) = nx - c ∧ (G.length : Int) ≤ (T.length : Int) ∧ G = (T.drop (Int.toNat 0)).take (Int.toNat (G.length : Int) - Int.toNat 0) := by
  obtain ⟨si, ndm, cnx, nxT, got, rdy, erl⟩ := hW
  obtain ⟨R0, R1, f0, f1, c0, c1, nz, Al⟩ := si
  have hl : (G.length : Int) = nx - c := by rw [got, List.length_take]; omega
  refine ⟨hl, by omega, ?_⟩
  rw [hl]
  exact got
theorem M_nil {M : List D} (h : ∀ q, mfind q M = none) : M = [] := by
  cases M with
  | nil => rfl
  | cons e r => have := h (dkey e); simp [mfind] at this
theorem W0 {T : List UInt8} {R : Int} (h0 : 0 ≤ R) (h1 : R ≤ 65535) : W T [] 0 R 0 0 false 0 [] [] :=
  ⟨⟨h0, h1, by omega, .inr rfl, by omega, h0, fun _ => rfl, fun h => by cases h⟩, List.nodup_nil, by omega, by omega, rfl, fun j h1 h2 => by omega, fun q v h => by cases h⟩
theorem pieceOk {d : D} (h : InE (.row [.bool, .int .i64, .str]) d) : PieceOk d := by
  simp only [InE] at h
  generalize hl : d.toL = l at h
  unfold PieceOk
  rw [hl]
  match l, h with
  | [], h => simp [InCs] at h
  | a :: [], h => simp [InCs] at h
  | a :: b :: r, h =>
    simp only [InCs, InC] at h
    exact h.2.1
theorem T3 (d : D) : F4 3 d = .b (loopV spTakeA d.toL).isSome := by kernel_rfl
theorem T5 (d : D) : F4 5 d = .ls (match loopV spTakeA d.toL with | some (_, ys) => ys | none => []) := by kernel_rfl
theorem T9 (d : D) : F4 9 d = .b (loopV spTakeB d.toL).isSome := by kernel_rfl
theorem T11 (d : D) : F4 11 d = .ls (match loopV spTakeB d.toL with | some (_, ys) => ys | none => []) := by kernel_rfl
theorem R18 (d : D) : F7 18 d = .b (loopV spPeek d.toL).isSome := by kernel_rfl
theorem R20 (d : D) : F7 20 d = .ls (match loopV spPeek d.toL with | some (_, ys) => ys | none => []) := by kernel_rfl
theorem K12 (d : D) : F5 12 d = .b (spTake d.toL).isSome := by kernel_rfl
theorem K14 (d : D) : F5 14 d = .ls (match spTake d.toL with | some (_, ys) => ys | none => []) := by kernel_rfl
/-- where a piece begins, and how long it is -/
def plc (T : List UInt8) (d : D) : Int :=
  Int.tmod (if decide ((d.toL.getD 1 (.i 0)).toI < 0) = true then w64 (0 - w64 ((d.toL.getD 1 (.i 0)).toI + 1)) else (d.toL.getD 1 (.i 0)).toI) (w64 ((T.length : Int) + 1))
def lng (T : List UInt8) (d : D) : Int :=
  Int.tmod (if decide (w64 (((d.toL.getD 2 (.i 0)).toS.length : Int) * 13) < 0) = true then w64 (0 - w64 (w64 (((d.toL.getD 2 (.i 0)).toS.length : Int) * 13) + 1)) else w64 (((d.toL.getD 2 (.i 0)).toS.length : Int) * 13)) (w64 (w64 ((T.length : Int) - plc T d) + 1))
theorem plc_bd {T : List UInt8} {d : D} (hT : (T.length : Int) ≤ 2000) (h : PieceOk d) : 0 ≤ plc T d ∧ plc T d ≤ (T.length : Int) := by
  obtain ⟨y, ey, y0, y1⟩ := absE h.1 h.2
  unfold plc
  rw [ey, w64_in (by omega) (by omega)]
  have := tmod_bd (x := y) (m := (T.length : Int) + 1) y0 (by omega)
  omega
theorem lng_bd {T : List UInt8} {d : D} (hT : (T.length : Int) ≤ 2000) (h : PieceOk d) : 0 ≤ lng T d ∧ plc T d + lng T d ≤ (T.length : Int) ∧ w64 (w64 ((T.length : Int) - plc T d) + 1) = (T.length : Int) - plc T d + 1 := by
  have hp := plc_bd hT h
  unfold lng
  generalize hx : w64 (((d.toL.getD 2 (.i 0)).toS.length : Int) * 13) = x
  obtain ⟨y, ey, y0, y1⟩ := absE (x := x) (by rw [← hx]; exact (w64_bd _).1) (by rw [← hx]; exact (w64_bd _).2)
  rw [ey, w64_in (n := (T.length : Int) - plc T d) (by omega) (by omega), w64_in (by omega) (by omega)]
  have := tmod_bd (x := y) (m := (T.length : Int) - plc T d + 1) y0 (by omega)
  omega
def cov (T : List UInt8) (d : D) (q : Int) : Prop := plc T d ≤ q ∧ q < plc T d + lng T d
theorem o_take {T : List UInt8} {d : D} {nx c : Int} {s : List UInt8} {nn : Bool} {al : Int} {M A : List D} {S : Int → Prop}
    (hW : W T [] nx 2000 0 c nn al M A) (hcn : c = nx) (hO : O S nx M) (hT : (T.length : Int) ≤ 2000) (hd : PieceOk d) (hs : s = (T.drop (plc T d).toNat).take ((w64 (plc T d + lng T d)).toNat - (plc T d).toNat)) :
    ∃ (nx' : Int) (nn' : Bool) (al' : Int) (M' A' : List D) (t : Int), spTake [.i (plc T d), .s s, .i nx, .i 2000, .i 0, .i c, .b nn, .i al, .ls M, .ls A] = some (1, [.i t, .i nx', .i 2000, .i 0, .i nx', .b nn', .i al', .ls M', .ls A']) ∧
      W T [] nx' 2000 0 nx' nn' al' M' A' ∧ O (fun q => S q ∨ cov T d q) nx' M' := by
  have hp := plc_bd hT hd
  have hl := lng_bd hT hd
  have ll : (s.length : Int) = lng T d := by
    rw [hs, w64_in (by omega) (by omega), List.length_take, List.length_drop]; omega
  have hs' : s = (T.drop (plc T d).toNat).take s.length := by
    rw [show s.length = (w64 (plc T d + lng T d)).toNat - (plc T d).toNat by rw [w64_in (by omega) (by omega)]; omega]; exact hs
  obtain ⟨t, nn', al', M', A', h1, h2, h3⟩ := O_take T3 T5 T9 T11 hW hO (by omega) (by omega) hp.1 hs' (by omega)
  subst hcn
  refine ⟨c + t, nn', al', M', A', t, h1, h2, ?_⟩
  rw [ll] at h3
  exact h3
theorem O_congr {S S' : Int → Prop} {nx : Int} {M : List D} (h : O S nx M) (e : ∀ q, S q ↔ S' q) : O S' nx M := ⟨fun q q0 => (h.at_ q q0).trans (e q), h.stop⟩
set_option maxHeartbeats 4000000 in
theorem main_loop {T : List UInt8} {L : List D} {n : Int} (hT : (T.length : Int) ≤ 2000) (hL : ∀ x ∈ L, PieceOk x) (hn : n ≤ (L.length : Int)) (hn1 : n ≤ 100) : ∀ (k : Nat) (i : Int) (NX : Int) (NN : Bool) (AL : Int) (MM AA : List D) (NXB : Int) (NNB : Bool) (ALB : Int) (MMB AAB : List D), 0 ≤ i → n - i = k →
    W T [] NX 2000 0 NX NN AL MM AA → O (fun q => ∃ j, 0 ≤ j ∧ j < i ∧ cov T (L.getD j.toNat (.i 0)) q) NX MM →
    W T [] NXB 2000 0 NXB NNB ALB MMB AAB → O (fun q => ∃ j, n - i ≤ j ∧ j < n ∧ cov T (L.getD j.toNat (.i 0)) q) NXB MMB →
    ∃ (nx : Int) (nn : Bool) (al : Int) (M A : List D) (nxb : Int) (nnb : Bool) (alb : Int) (Mb Ab : List D),
      loopV spMain [.s T, .ls L, .i n, .i i, .i NX, .i NXB, .i NX, .b NN, .i AL, .ls MM, .i NXB, .b NNB, .i ALB, .ls MMB, .ls AA, .ls AAB] = some (1, [.s T, .i nx, .i nxb, .i nx, .b nn, .i al, .ls M, .i nxb, .b nnb, .i alb, .ls Mb, .ls A, .ls Ab]) ∧
      W T [] nx 2000 0 nx nn al M A ∧ O (fun q => ∃ j, 0 ≤ j ∧ j < n ∧ cov T (L.getD j.toNat (.i 0)) q) nx M ∧
      W T [] nxb 2000 0 nxb nnb alb Mb Ab ∧ O (fun q => ∃ j, 0 ≤ j ∧ j < n ∧ cov T (L.getD j.toNat (.i 0)) q) nxb Mb
  | 0, i, NX, NN, AL, MM, AA, NXB, NNB, ALB, MMB, AAB, i0, hk, w1, o1, w2, o2 => by
    have hi : i = n := by omega
    subst hi
    refine ⟨NX, NN, AL, MM, AA, NXB, NNB, ALB, MMB, AAB, loopV_out (j := 0) ?_, w1, o1, w2, O_congr o2 (fun q => by rw [show i - i = (0 : Int) by omega])⟩
    show stepMain (F5 12) (F5 14) T L i i NX NXB NX NN AL MM NXB NNB ALB MMB AA AAB = _
    unfold stepMain
    extract_lets -merge x0
    rw [if_neg (by show ¬ decide (i < i) = true; simp)]
  | k + 1, i, NX, NN, AL, MM, AA, NXB, NNB, ALB, MMB, AAB, i0, hk, w1, o1, w2, o2 => by
    have hi : i < n := by omega
    have hmem : ∀ j : Int, 0 ≤ j → j < n → L.getD j.toNat (.i 0) ∈ L := by
      intro j j0 j1
      rw [List.getD_eq_getElem?_getD, List.getElem?_eq_getElem (by omega)]
      exact List.getElem_mem _
    suffices hs : ∃ (nx : Int) (nn : Bool) (al : Int) (M A : List D) (nxb : Int) (nnb : Bool) (alb : Int) (Mb Ab : List D),
        spMain [.s T, .ls L, .i n, .i i, .i NX, .i NXB, .i NX, .b NN, .i AL, .ls MM, .i NXB, .b NNB, .i ALB, .ls MMB, .ls AA, .ls AAB] = some (0, [.s T, .ls L, .i n, .i (i + 1), .i nx, .i nxb, .i nx, .b nn, .i al, .ls M, .i nxb, .b nnb, .i alb, .ls Mb, .ls A, .ls Ab]) ∧
        W T [] nx 2000 0 nx nn al M A ∧ O (fun q => ∃ j, 0 ≤ j ∧ j < i + 1 ∧ cov T (L.getD j.toNat (.i 0)) q) nx M ∧
        W T [] nxb 2000 0 nxb nnb alb Mb Ab ∧ O (fun q => ∃ j, n - (i + 1) ≤ j ∧ j < n ∧ cov T (L.getD j.toNat (.i 0)) q) nxb Mb by
      obtain ⟨nx, nn, al, M, A, nxb, nnb, alb, Mb, Ab, h1, h2, h3, h4, h5⟩ := hs
      obtain ⟨nx', nn', al', M', A', nxb', nnb', alb', Mb', Ab', g1, g2⟩ := main_loop hT hL hn hn1 k (i + 1) nx nn al M A nxb nnb alb Mb Ab (by omega) (by omega) h2 h3 h4 h5
      exact ⟨nx', nn', al', M', A', nxb', nnb', alb', Mb', Ab', (loopV_again h1).trans g1, g2⟩
    have hE : spMain [.s T, .ls L, .i n, .i i, .i NX, .i NXB, .i NX, .b NN, .i AL, .ls MM, .i NXB, .b NNB, .i ALB, .ls MMB, .ls AA, .ls AAB] = stepMain (F5 12) (F5 14) T L n i NX NXB NX NN AL MM NXB NNB ALB MMB AA AAB := rfl
    rw [hE]
    unfold stepMain
    extract_lets -merge x0 x1 x2 x3 x4 x5 x6 x7 x8 x9 x10 x11 x12 x13 x14 x15 x16 x17 x18 x19 x20 x21 x22 x23 x24 x25 x26 x27 x28 x29 x30 x31 x32 x33 x34 x35 x36 x37 x38 x39 x40 x41 x42 x43 x44 x45 x46 x47 x48 x49 x50 x51 x52 x53 x54 x55 x56 x57 x58 x59 x60 x61 x62 x63 x64 x65 x66 x67 x68 x69 x70 x71 x72 x73 x74 x75 x76 x77 x78 x79 x80 x81 x82 x83 x84 x85 x86 x87 x88 x89 x90 x91 x92 x93 x94 x95 x96 x97 x98 x99 x100 x101 x102 x103 x104 x105 x106 x107 x108 x109 x110 x111 x112 x113 x114 x115 x116 x117 x118 x119 x120 x121 x122 x123
    have e0 : x0 = true := by show decide (i < n) = true; simp; omega
    have e4 : x4 = true := by show (if decide (i ≥ 0) = true then decide (i < (L.length : Int)) else false) = true; rw [if_pos (by simpa using i0)]; simp; omega
    have e6 : x6 = (T.length : Int) + 1 := w64_in (n := x5 + 1) (by show _ ≤ (T.length : Int) + 1; omega) (by show (T.length : Int) + 1 ≤ _; omega)
    have e7 : x7 = true := by show (x6 != 0) = true; rw [e6]; simp; omega
    have hd1 : PieceOk x8 := hL _ (hmem i i0 hi)
    have bp1 := plc_bd hT hd1
    have bl1 := lng_bd hT hd1
    have e18 : x18 = true := by show (w64 (w64 ((T.length : Int) - plc T x8) + 1) != 0) = true; rw [bl1.2.2]; simp; omega
    have e28 : x28 = plc T x8 + lng T x8 := by show w64 (plc T x8 + lng T x8) = _; rw [w64_in (by omega) (by omega)]
    have e15 : x15 = plc T x8 := rfl
    have e35 : x35 = true := by
      show (if decide (x28 ≥ 0) = true then (if decide (x28 ≤ (T.length : Int)) = true then (if decide (x15 ≥ 0) = true then decide (x15 ≤ x28) else false) else false) else false) = true
      rw [e28, e15, if_pos (by simp; omega), if_pos (by simp; omega), if_pos (by simp; omega)]; simp; omega
    have e50 : x50 = n - 1 - i := by show w64 (w64 (n - 1) - i) = _; rw [w64_in (n := n - 1) (by omega) (by omega), w64_in (by omega) (by omega)]
    have e53 : x53 = true := by show (if decide (x50 ≥ 0) = true then decide (x50 < (L.length : Int)) else false) = true; rw [e50, if_pos (by simp; omega)]; simp; omega
    have e54 : x54 = L.getD (n - 1 - i).toNat (.i 0) := by show L.getD (Int.toNat x50) (.i 0) = _; rw [e50]
    have hd2 : PieceOk x54 := by rw [e54]; exact hL _ (hmem _ (by omega) (by omega))
    have bp2 := plc_bd hT hd2
    have bl2 := lng_bd hT hd2
    have e64 : x64 = true := by show (w64 (w64 ((T.length : Int) - plc T x54) + 1) != 0) = true; rw [bl2.2.2]; simp; omega
    have e74 : x74 = plc T x54 + lng T x54 := by show w64 (plc T x54 + lng T x54) = _; rw [w64_in (by omega) (by omega)]
    have e61 : x61 = plc T x54 := rfl
    have e81 : x81 = true := by
      show (if decide (x74 ≥ 0) = true then (if decide (x74 ≤ (T.length : Int)) = true then (if decide (x61 ≥ 0) = true then decide (x61 ≤ x74) else false) else false) else false) = true
      rw [e74, e61, if_pos (by simp; omega), if_pos (by simp; omega), if_pos (by simp; omega)]; simp; omega
    obtain ⟨nx1, nn1, al1, M1, A1, t1, p1, p2, p3⟩ := o_take (s := x36) w1 rfl o1 hT hd1 rfl
    obtain ⟨nx2, nn2, al2, M2, A2, t2, q1, q2, q3⟩ := o_take (s := x82) w2 rfl o2 hT hd2 rfl
    have p1 : spTake x46 = _ := p1
    have q1 : spTake x92 = _ := q1
    have e48 : x48 = true := by show (F5 12 (D.ls x46)).toB = true; rw [K12, show (D.ls x46).toL = x46 from rfl, p1]; rfl
    have e94 : x94 = true := by show (F5 12 (D.ls x92)).toB = true; rw [K12, show (D.ls x92).toL = x92 from rfl, q1]; rfl
    have e95 : x95 = i + 1 := w64_in (by omega) (by omega)
    have e97 : x97 = [.i t1, .i nx1, .i 2000, .i 0, .i nx1, .b nn1, .i al1, .ls M1, .ls A1] := by show (F5 14 (D.ls x46)).toL = _; rw [K14, show (D.ls x46).toL = x46 from rfl, p1]; rfl
    have e101 : x101 = [.i t2, .i nx2, .i 2000, .i 0, .i nx2, .b nn2, .i al2, .ls M2, .ls A2] := by show (F5 14 (D.ls x92)).toL = _; rw [K14, show (D.ls x92).toL = x92 from rfl, q1]; rfl
    have e99 : x99 = nx1 := by show (x97.getD 1 (.i 0)).toI = _; rw [e97]; rfl
    have e103 : x103 = nx2 := by show (x101.getD 1 (.i 0)).toI = _; rw [e101]; rfl
    have e105 : x105 = nx1 := by show (x97.getD 4 (.i 0)).toI = _; rw [e97]; rfl
    have e107 : x107 = nn1 := by show (x97.getD 5 (.i 0)).toB = _; rw [e97]; rfl
    have e109 : x109 = al1 := by show (x97.getD 6 (.i 0)).toI = _; rw [e97]; rfl
    have e111 : x111 = M1 := by show (x97.getD 7 (.i 0)).toL = _; rw [e97]; rfl
    have e113 : x113 = nx2 := by show (x101.getD 4 (.i 0)).toI = _; rw [e101]; rfl
    have e115 : x115 = nn2 := by show (x101.getD 5 (.i 0)).toB = _; rw [e101]; rfl
    have e117 : x117 = al2 := by show (x101.getD 6 (.i 0)).toI = _; rw [e101]; rfl
    have e119 : x119 = M2 := by show (x101.getD 7 (.i 0)).toL = _; rw [e101]; rfl
    have e121 : x121 = A1 := by show (x97.getD 8 (.i 0)).toL = _; rw [e97]; rfl
    have e123 : x123 = A2 := by show (x101.getD 8 (.i 0)).toL = _; rw [e101]; rfl
    rw [if_pos e0, if_pos e4, if_pos e7, if_pos e18, if_pos e35, if_pos e48, if_pos e4, if_pos e53, if_pos e7, if_pos e64, if_pos e81, if_pos e94, e95, e99, e103, e105, e107, e109, e111, e113, e115, e117, e119, e121, e123]
    refine ⟨nx1, nn1, al1, M1, A1, nx2, nn2, al2, M2, A2, rfl, p2, O_congr p3 (fun q => ?_), q2, O_congr q3 (fun q => ?_)⟩
    · constructor
      · rintro (⟨j, h1, h2, h3⟩ | h)
        · exact ⟨j, h1, by omega, h3⟩
        · exact ⟨i, i0, by omega, h⟩
      · rintro ⟨j, h1, h2, h3⟩
        by_cases g : j = i
        · subst g; exact .inr h3
        · exact .inl ⟨j, h1, by omega, h3⟩
    · rw [e54]
      constructor
      · rintro (⟨j, h1, h2, h3⟩ | h)
        · exact ⟨j, by omega, h2, h3⟩
        · exact ⟨n - 1 - i, by omega, by omega, h⟩
      · rintro ⟨j, h1, h2, h3⟩
        by_cases g : j = n - 1 - i
        · subst g; exact .inr h3
        · exact .inl ⟨j, by omega, h2, h3⟩
theorem o_read {T : List UInt8} {nx : Int} {nn : Bool} {al : Int} {M A : List D} (hW : W T [] nx 2000 0 nx nn al M A) :
    ∃ (f' : Int), spRead [.i 5000, .i nx, .i 2000, .i 0, .i nx, .b nn, .i al, .ls M, .ls A] = some (1, [.s (T.take nx.toNat), .i nx, .i 2000, .i f', .i 0, .b nn, .i al, .ls M, .ls A]) := by
  obtain ⟨f', bs, h1, h2⟩ := W_read R18 R20 (n := 5000) hW
  have c0 := hW.si.c0
  have c1 := hW.si.c1
  have hz : nx - min (max 5000 0) nx = 0 := by omega
  rw [hz] at h1 h2
  have := h2.got
  rw [List.nil_append, show nx - 0 = nx by omega] at this
  subst this
  exact ⟨f', h1⟩
set_option maxHeartbeats 4000000 in
theorem pure (a0 : List UInt8) (a1 : List D) (b0 : (a0.length : Int) ≤ 9223372036854775807) (b1 : InC (.sl (.row [.bool, .int .i64, .str])) (.ls a1)) : val F8 a0 a1 = true := by
  unfold val
  extract_lets -merge x0 x1 x2 x3 x4 x5 x6 x7 x8 x9 x10 x11 x12 x13 x14 x15 x16 x17 x18 x19 x20 x21 x22 x23 x24 x25 x26 x27 x28 x29 x30 x31 x32 x33 x34 x35 x36 x37 x38 x39 x40 x41 x42 x43 x44 x45 x46 x47 x48 x49 x50 x51 x52 x53 x54 x55 x56 x57 x58 x59 x60 x61 x62 x63 x64 x65 x66 x67 x68 x69 x70 x71 x72 x73 x74 x75 x76 x77 x78 x79 x80 x81 x82 x83 x84 x85 x86 x87 x88 x89 x90 x91 x92 x93 x94 x95 x96
  have hL : ∀ x ∈ a1, PieceOk x := by
    simp only [InC] at b1
    exact fun x hx => pieceOk (b1.2 x hx)
  have e1 : x1 = true := by show D.toB (F8 0 (D.ls [])) = true; rw [F_0]; rfl
  have e5 : x5 = true := by
    show (if decide ((a0.length : Int) > 2000) = true then decide ((2000 : Int) ≤ (a0.length : Int)) else true) = true
    by_cases q : (a0.length : Int) > 2000
    · rw [if_pos (by simpa using q)]; simp; omega
    · rw [if_neg (by simpa using q)]
  have hT : (x7.length : Int) ≤ 2000 := by
    show ((if decide ((a0.length : Int) > 2000) = true then (a0.drop (Int.toNat 0)).take (Int.toNat 2000 - Int.toNat 0) else a0).length : Int) ≤ 2000
    by_cases q : (a0.length : Int) > 2000
    · rw [if_pos (by simpa using q), List.length_take]
      have : Int.toNat 2000 - Int.toNat 0 = 2000 := rfl
      omega
    · rw [if_neg (by simpa using q)]; omega
  have e10 : x10 ≤ (a1.length : Int) ∧ x10 ≤ 100 ∧ 0 ≤ x10 := by
    show (if decide ((a1.length : Int) > 100) = true then 100 else (a1.length : Int)) ≤ (a1.length : Int) ∧ (if decide ((a1.length : Int) > 100) = true then 100 else (a1.length : Int)) ≤ 100 ∧ 0 ≤ (if decide ((a1.length : Int) > 100) = true then 100 else (a1.length : Int))
    by_cases q : (a1.length : Int) > 100
    · rw [if_pos (by simpa using q)]; omega
    · rw [if_neg (by simpa using q)]; omega
  have oz : ∀ (a b : Int), b ≤ a → O (fun q => ∃ j, a ≤ j ∧ j < b ∧ cov x7 (a1.getD j.toNat (.i 0)) q) 0 [] := fun a b hab =>
    ⟨fun q q0 => ⟨fun h => by rcases h with h | h; omega; exact absurd rfl h, fun ⟨j, h1, h2, _⟩ => by omega⟩, rfl⟩
  obtain ⟨nx, nn, al, M, A, nxb, nnb, alb, Mb, Ab, p1, w1, o1, w2, o2⟩ := main_loop (T := x7) (L := a1) (n := x10) hT hL e10.1 e10.2.1 x10.toNat 0 0 false 0 [] [] 0 false 0 [] [] (by omega) (by omega) (W0 (by omega) (by omega)) (oz _ _ (by omega)) (W0 (by omega) (by omega)) (oz _ _ (by omega))
  have p1 : loopV spMain x13 = _ := p1
  obtain ⟨hx, hm⟩ := O_eq o1 o2 w1.si.c0 w2.si.c0 w1.ndm w2.ndm (fun q h => by
    cases hq : mfind q M with
    | none => exact absurd hq h
    | some v => exact (w1.erl q v hq).1) (fun q h => by
    cases hq : mfind q Mb with
    | none => exact absurd hq h
    | some v => exact (w2.erl q v hq).1)
  subst hx
  have c0 := w1.si.c0
  have nT := w1.nxT
  have e15 : x15 = true := by show (F8 15 (D.ls x13)).toB = true; rw [F_15, show (D.ls x13).toL = x13 from rfl, p1]; rfl
  have e17 : x17 = [.s x7, .i nx, .i nx, .i nx, .b nn, .i al, .ls M, .i nx, .b nnb, .i alb, .ls Mb, .ls A, .ls Ab] := by show (F8 17 (D.ls x13)).toL = _; rw [F_17, show (D.ls x13).toL = x13 from rfl, p1]; rfl
  have e34 : x34 = false := by
    show (if ((x17.getD 1 (.i 0)).toI != (x17.getD 2 (.i 0)).toI) = true then true else if ((((x17.getD 6 (.i 0)).toL).length : Int) != (((x17.getD 10 (.i 0)).toL).length : Int)) = true then true else if ((x17.getD 3 (.i 0)).toI != (x17.getD 7 (.i 0)).toI) = true then true else (w64 (2000 - (x17.getD 3 (.i 0)).toI) != w64 (2000 - (x17.getD 7 (.i 0)).toI))) = false
    rw [e17]
    show (if (nx != nx) = true then true else if ((M.length : Int) != (Mb.length : Int)) = true then true else if (nx != nx) = true then true else (w64 (2000 - nx) != w64 (2000 - nx))) = false
    rw [hm]; simp
  obtain ⟨f1, r1⟩ := o_read w1
  obtain ⟨f2, r2⟩ := o_read w2
  have r1 : spRead x52 = some (1, [.s (x7.take nx.toNat), .i nx, .i 2000, .i f1, .i 0, .b nn, .i al, .ls M, .ls A]) := by
    show spRead [.i 5000, .i (x17.getD 1 (.i 0)).toI, .i 2000, .i 0, .i (x17.getD 3 (.i 0)).toI, .b (x17.getD 4 (.i 0)).toB, .i (x17.getD 5 (.i 0)).toI, .ls (x17.getD 6 (.i 0)).toL, .ls (x17.getD 11 (.i 0)).toL] = _
    rw [e17]; exact r1
  have r2 : spRead x73 = some (1, [.s (x7.take nx.toNat), .i nx, .i 2000, .i f2, .i 0, .b nnb, .i alb, .ls Mb, .ls Ab]) := by
    show spRead [.i 5000, .i (x17.getD 2 (.i 0)).toI, .i 2000, .i 0, .i (x17.getD 7 (.i 0)).toI, .b (x17.getD 8 (.i 0)).toB, .i (x17.getD 9 (.i 0)).toI, .ls (x17.getD 10 (.i 0)).toL, .ls (x17.getD 12 (.i 0)).toL] = _
    rw [e17]; exact r2
  have e54 : x54 = true := by show (F8 21 (D.ls x52)).toB = true; rw [F_21, show (D.ls x52).toL = x52 from rfl, r1]; rfl
  have e75 : x75 = true := by show (F8 21 (D.ls x73)).toB = true; rw [F_21, show (D.ls x73).toL = x73 from rfl, r2]; rfl
  have e79 : D.toS x79 = x7.take nx.toNat := by show (((F8 23 (D.ls x52)).toL).getD 0 (.i 0)).toS = _; rw [F_23, show (D.ls x52).toL = x52 from rfl, r1]; rfl
  have e82 : D.toS x82 = x7.take nx.toNat := by show (((F8 23 (D.ls x73)).toL).getD 0 (.i 0)).toS = _; rw [F_23, show (D.ls x73).toL = x73 from rfl, r2]; rfl
  have e83 : x83 = true := by show (D.toS x79 == D.toS x82) = true; rw [e79, e82]; simp
  have e84 : x84 = nx := by show ((D.toS x79).length : Int) = _; rw [e79, List.length_take]; omega
  have e90 : x90 = true := by
    show (if decide (x84 ≥ 0) = true then (if decide (x84 ≤ (x7.length : Int)) = true then decide (0 ≤ x84) else false) else false) = true
    rw [e84, if_pos (by simpa using c0), if_pos (by simpa using nT)]; simpa using c0
  have e94 : x94 = true := by
    show (D.toS x79 == (x7.drop (Int.toNat 0)).take (Int.toNat x84 - Int.toNat 0)) = true
    rw [e79, e84]; simp
  have e55 : x55 = true := by show (if x34 = true then true else x54) = true; rw [e54]; split <;> rfl
  have e76 : x76 = true := by show (if x34 = true then true else x75) = true; rw [e75]; split <;> rfl
  have e92 : x92 = true := by show (if x34 = true then true else if x83 = true then x90 else true) = true; rw [e90, e34, e83]; rfl
  have e96 : x96 = true := by show (if x34 = true then false else if x83 = true then x94 else false) = true; rw [e34, e83, e94]; rfl
  rw [e1, e5, e15, e55, e76, e92, e96]; rfl

theorem own : ownKnob Try.prog.godebug = none := by kernel_rfl
set_option maxRecDepth 100000 in
theorem lifted (os : Os) (started : os.Started) (H : Type) (enc : TypeId × Value → H) :
    ReturnsInHanded {} Try.checked os 9 .any (Rows.seqOrdersSpec.pre6 enc Try.prog Try.f9 Rows.seqOrdersRow.domain false) (Rows.seqOrdersSpec.post enc Try.prog Try.f9 false true false false) := by
  refine returnsInHanded_of_change (C := Try.checked) own started (by kernel_rfl) Try.func9
    (ChangeSpec.witness6 (enc := enc) (C := Try.checked) false ⟨#[], #[.string .empty, .slice none 0 0], []⟩ 8 (by kernel_rfl) (by kernel_rfl) (by kernel_rfl) (by kernel_rfl)) ?_
  intro W base args ds gs before hval0 hW hcnd _
  have hval : ∀ (j : Nat) t v, Try.f9.params[j]? = some t → args[j]? = some v → Value.okWide Try.prog W .any base t v := hval0
  have hW' := hW
  obtain ⟨p, q, hA0, hV, rfl, hfz, hnd⟩ := hW
  have hA : DataW.TrodAll enc Try.prog W 0 (fun _ => true) true Try.f9.params.toList args.toList ds p := hA0
  rw [Try.params9] at hA hval
  obtain ⟨v0, vs0, d0, ds0, p0, q0, hargs, rfl, rfl, h0, r0⟩ := trodAll_cons hA
  obtain ⟨v1, vs1, d1, ds1, p1, q1, rfl, rfl, rfl, h1, r1⟩ := trodAll_cons r0
  obtain ⟨rfl, rfl, rfl⟩ := trodAll_nil r1
  obtain rfl : args = #[v0, v1] := by cases args; simp_all
  obtain ⟨rfl, rfl⟩ := trodVars_none hV
  obtain ⟨a0, rfl, b0⟩ := argWide_str Try.underlying9 (hval 0 9 v0 rfl rfl)
  have hv1 := argWide_slice Try.underlying45 (hval 1 45 v1 rfl rfl)
  obtain ⟨a1, ro1, b1⟩ := arg_rsl (et := (.row [.bool, (.int .i64), .str])) (by kernel_rfl) h1 hv1
  generalize v1 = sv1 at *
  refine (law_walkF (P := Try.prog) Try.checked.mixed (n := 1000) (f := 9) (args := symArgs) (F := F8) (R := blocksOf W) (l := [.s a0, .ls a1]) (Z := z8) (Ω := Om.none) (w := W) good8 (blocksOf_ok W) (by rw [run]; exact pure a0 a1 b0 b1) (vs := [.string ⟨⟨a0⟩⟩, sv1]) (Rels.cons (rel_str rfl) (Rels.cons (rel_rsl ro1 rfl) (Rels.nil)))).mono fun e W' ⟨he, hb⟩ => ?_
  subst he
  exact ⟨_, rfl, law_post (by kernel_rfl) (by rw [Try.params9]; intro t ht; simp at ht; rcases ht with rfl | rfl <;> exact ⟨by kernel_rfl, of_decide_eq_true (by kernel_rfl)⟩) (by kernel_rfl) Try.underlying4 rfl ⟨rfl, rfl, rfl⟩ hW' hb⟩

theorem over : Rows.seqOrdersRow.holds Try.pinned (OpenSpec.ofChange Rows.seqOrdersSpec) :=
  OpenClaim.holds_of_wide 9 Try.f9 rfl rfl rfl rfl rfl rfl rfl ⟨rfl, rfl, rfl, rfl, rfl⟩ rfl rfl rfl rfl rfl (by kernel_rfl) Try.func9 (by kernel_rfl)
    (of_decide_eq_true (by kernel_rfl)) (by unfold Func.isWrapper; first | (rw [if_pos (by decide +kernel)]; kernel_rfl) | (rw [if_neg (by decide +kernel)]; exact ⟨rfl, rfl⟩))
    (fun os started H enc _ => lifted os started H enc)
end Go.Proofs.Ytbbippgnmllcoaa.seqOrders
namespace Go.Proofs.Ytbbippgnmllcoaa
/-- THE STATEMENT. -/
theorem seqOrders_holds : Rows.SeqOrdersSaid := seqOrders.over
#print axioms seqOrders_holds
end Go.Proofs.Ytbbippgnmllcoaa
