/-
  A stream keeps, orders and tells what comes in pieces, call by call as the document's stream does: any room, any calls.
  No conditions: every input that can be read.
-/
import Derived.Test.YtbbippgnmllcoaaConsSeqStreams
import Derived.Test.YtbbippgnmllcoaaSyW
import Derived.Test.YtbbippgnmllcoaaRows
set_option linter.unusedVariables false
set_option linter.unusedSimpArgs false
namespace Go.Proofs.Ytbbippgnmllcoaa.seqStreams
open Go.Sy Go.ChangeShapes Go.WideShapes Go.ChangeAt Go.RowKit
/-- What 'adit/aditlaw17.SeqStreams' comes to. -/
def val (F : Nat → D → D) (v0 : Int) (v1 : List D) : Bool :=
  let x0 : D := F 0 (D.ls ([] : List D))
  let x1 : Bool := (D.toB x0)
  let x2 : Bool := decide ((v0 : Int) < 0)
  let x3 : Bool := decide ((v0 : Int) > 65535)
  let x4 : Int := if x3 then 65535 else v0
  let x5 : Int := if x2 then 0 else x4
  let x6 : Bool := decide ((x5 : Int) ≥ 0)
  let x7 : Bool := decide ((x5 : Int) ≤ 1099511627776)
  let x8 : Bool := if x6 then x7 else false
  let x9 : Int := zmax v0 0
  let x10 : Int := zmin x9 65535
  let x11 : List D := List.replicate (Int.toNat x5) (D.b false)
  let x12 : List D := List.replicate (Int.toNat x5) (D.i 0)
  let x13 : List D := (D.ls x12) :: ([(D.ls [])] : List D)
  let x14 : List D := (D.ls x11) :: x13
  let x15 : List D := (D.ls ([] : List D)) :: x14
  let x16 : List D := (D.i 0) :: x15
  let x17 : List D := (D.b false) :: x16
  let x18 : List D := (D.i 0) :: x17
  let x19 : List D := (D.i 0) :: x18
  let x20 : List D := (D.i x10) :: x19
  let x21 : List D := (D.i x5) :: x20
  let x22 : List D := (D.b true) :: x21
  let x23 : List D := (D.i x5) :: x22
  let x24 : List D := (D.b true) :: x23
  let x25 : List D := (D.s ([] : List UInt8)) :: x24
  let x26 : List D := (D.i 0) :: x25
  let x27 : List D := (D.i x5) :: x26
  let x28 : List D := (D.i 0) :: x27
  let x29 : List D := (D.i 0) :: x28
  let x30 : List D := (D.ls v1) :: x29
  let x31 : D := F 39 (D.ls x30)
  let x32 : Bool := (D.toB x31)
  let x33 : D := F 40 (D.ls x30)
  let x34 : Int := (D.toI x33)
  let x35 : Bool := (x34 : Int) == 0
  let x36 : Bool := if x35 then false else true
  (x1 && (x8 && (x8 && (x32 && x36))))
def symArgs : List SV := [.int .i64 (.var 0), .rsl (.row [.bool, (.int .i64), .str]) (.var 1)]
set_option maxRecDepth 100000 in
theorem run (F : Nat → D → D) (R : Nat → Option (List Value)) (v0 : Int) (v1 : List D) : (evFun Try.prog z14 1000 6 symArgs []).okB (envL F R [.i v0, .ls v1]) = val F v0 v1 := by kernel_rfl

theorem zmaxE (x y : Int) : zmax x y = max x y := by unfold zmax; split <;> omega
theorem zminE (x y : Int) : zmin x y = min x y := by unfold zmin; split <;> omega
def rd (f j R : Int) : Int := if f + j < R then f + j else f + j - R
theorem tmod_rd {x R : Int} (h0 : 0 ≤ x) (h1 : x < 2 * R) : Int.tmod x R = if x < R then x else x - R := by
  rw [Int.tmod_eq_emod_of_nonneg h0]
  split
  · exact Int.emod_eq_of_lt h0 (by assumption)
  · rename_i h
    have e : x % R = (x - R) % R := by rw [Int.sub_emod_right]
    rw [e]
    exact Int.emod_eq_of_lt (by omega) (by omega)
def at' (A : List D) (p : Int) : Int := (A.getD p.toNat (.i 0)).toI
theorem at_set {A : List D} {p q : Int} {n : Int} (hp : 0 ≤ p) (hq : 0 ≤ q) (hl : p < (A.length : Int)) : at' (A.set p.toNat (.i n)) q = if q = p then n else at' A q := by
  unfold at'
  rw [List.getD_eq_getElem?_getD, List.getD_eq_getElem?_getD]
  by_cases h : q = p
  · subst h
    rw [if_pos rfl, List.getElem?_set_self (by omega)]; rfl
  · rw [if_neg h, List.getElem?_set_ne (by omega)]
/-! ### maps -/
theorem mfind_mput (k k' v : Int) : ∀ M : List D, mfind k (mput k' v M) = if k = k' then some v else mfind k M
  | [] => by
    simp only [mput, mfind]
    have e1 : dkey (.ls [.i k', .i v]) = k' := rfl
    have e2 : dval (.ls [.i k', .i v]) = v := rfl
    rw [e1, e2]
    by_cases h : k' = k
    · rw [if_pos h, if_pos h.symm]
    · rw [if_neg h, if_neg (fun hh => h hh.symm)]
  | e :: r => by
    simp only [mput]
    have e1 : dkey (.ls [.i k', .i v]) = k' := rfl
    have e2 : dval (.ls [.i k', .i v]) = v := rfl
    by_cases h : dkey e = k'
    · rw [if_pos h]
      simp only [mfind]
      rw [e1, e2, h]
      by_cases hk : k' = k
      · rw [if_pos hk, if_pos hk.symm]
      · rw [if_neg hk, if_neg hk, if_neg (fun hh => hk hh.symm)]
    · rw [if_neg h]
      simp only [mfind]
      by_cases hk : dkey e = k
      · rw [if_pos hk, if_pos hk, if_neg (by rw [← hk]; exact h)]
      · rw [if_neg hk, if_neg hk]; exact mfind_mput k k' v r
/-- no key twice -/
def nd (M : List D) : Prop := (M.map dkey).Nodup
theorem mfind_none {k : Int} : ∀ {M : List D}, mfind k M = none ↔ k ∉ M.map dkey
  | [] => by simp [mfind]
  | e :: r => by
    simp only [mfind, List.map_cons, List.mem_cons, not_or]
    by_cases h : dkey e = k
    · rw [if_pos h]; simp [h]
    · rw [if_neg h, mfind_none]
      exact ⟨fun hh => ⟨fun q => h q.symm, hh⟩, fun hh => hh.2⟩
theorem mput_keys (k v : Int) : ∀ M : List D, (mput k v M).map dkey = if (mfind k M).isSome then M.map dkey else M.map dkey ++ [k]
  | [] => rfl
  | e :: r => by
    by_cases h : dkey e = k
    · have hf : mfind k (e :: r) = some (dval e) := by simp only [mfind]; rw [if_pos h]
      have hp : mput k v (e :: r) = .ls [.i k, .i v] :: r := by simp only [mput]; rw [if_pos h]
      rw [hf, hp]
      simp only [List.map_cons, Option.isSome_some, if_true]
      rw [h]; rfl
    · have hf : mfind k (e :: r) = mfind k r := by simp only [mfind]; rw [if_neg h]
      have hp : mput k v (e :: r) = e :: mput k v r := by simp only [mput]; rw [if_neg h]
      rw [hf, hp, List.map_cons, mput_keys k v r]
      split <;> rfl
theorem nd_mput {k v : Int} {M : List D} (h : nd M) : nd (mput k v M) := by
  unfold nd at *
  rw [mput_keys]
  split
  · exact h
  · rename_i hn
    have hk : k ∉ M.map dkey := mfind_none.1 (by cases hq : mfind k M with | none => rfl | some x => rw [hq] at hn; exact absurd rfl hn)
    rw [List.nodup_append]
    exact ⟨h, by simp, fun a ha b hb => by simp at hb; subst hb; rintro rfl; exact hk ha⟩
theorem mdel_keys (k : Int) : ∀ M : List D, (mdel k M).map dkey = (M.map dkey).erase k
  | [] => rfl
  | e :: r => by
    simp only [mdel, List.map_cons]
    by_cases h : dkey e = k
    · rw [if_pos h, h, List.erase_cons_head]
    · rw [if_neg h, List.map_cons, mdel_keys k r, List.erase_cons_tail (by simpa using h)]
theorem nd_mdel {k : Int} {M : List D} (h : nd M) : nd (mdel k M) := by
  unfold nd at *
  rw [mdel_keys]; exact h.erase k
theorem mfind_mdel {k k' : Int} : ∀ {M : List D}, nd M → mfind k (mdel k' M) = if k = k' then none else mfind k M
  | [], _ => by simp [mdel, mfind]
  | e :: r, h => by
    have hr : nd r := (List.nodup_cons.1 h).2
    have he : dkey e ∉ r.map dkey := (List.nodup_cons.1 h).1
    simp only [mdel]
    by_cases hk : dkey e = k'
    · rw [if_pos hk]
      by_cases hkk : k = k'
      · rw [if_pos hkk, mfind_none, hkk, ← hk]; exact he
      · rw [if_neg hkk]; simp only [mfind]; rw [if_neg (by rw [hk]; exact fun q => hkk q.symm)]
    · rw [if_neg hk]
      simp only [mfind]
      by_cases hq : dkey e = k
      · rw [if_pos hq, if_pos hq, if_neg (by rw [← hq]; exact hk)]
      · rw [if_neg hq, if_neg hq]; exact mfind_mdel hr
theorem len_mput (k v : Int) (M : List D) : (mput k v M).length = if (mfind k M).isSome then M.length else M.length + 1 := by
  have h := congrArg List.length (mput_keys k v M)
  rw [List.length_map] at h
  rw [h]
  split
  · rw [List.length_map]
  · rw [List.length_append, List.length_map]; rfl
theorem len_mdel {k : Int} {M : List D} (h : (mfind k M).isSome = true) : (mdel k M).length + 1 = M.length := by
  have hl := congrArg List.length (mdel_keys k M)
  rw [List.length_map] at hl
  have hm : k ∈ M.map dkey := by
    rcases Classical.em (k ∈ M.map dkey) with q | q
    · exact q
    · rw [mfind_none.2 q] at h; cases h
  rw [List.length_erase_of_mem hm, List.length_map] at hl
  have : 0 < M.length := by have := List.length_pos_of_mem hm; rwa [List.length_map] at this
  omega
/-! ### the loops of Take -/
def byt (s : List UInt8) (j : Int) : Int := ((s.getD j.toNat 0).toNat : Int)
theorem takeA_loop {p e : Int} {s : List UInt8} {v4 v5 v6 v7 : Int} {v8 : Bool} {v9 : Int} {A : List D} (p0 : 0 ≤ p) (hs : p + (s.length : Int) ≤ 4611686018427387904) : ∀ (k : Nat) (a : Int) (M : List D), p ≤ a → a ≤ 4611686018427387904 → max a (min (p + (s.length : Int)) e) - a = k → nd M →
    ∃ M', loopV spTakeA [.i p, .s s, .i e, .i a, .i v4, .i v5, .i v6, .i v7, .b v8, .i v9, .ls M, .ls A] = some (1, [.i e, .i v4, .i v5, .i v6, .i v7, .b v8, .i v9, .ls M', .ls A]) ∧ nd M' ∧
      ∀ q, mfind q M' = if a ≤ q ∧ q < p + (s.length : Int) ∧ q < e ∧ mfind q M = none then some (byt s (q - p)) else mfind q M
  | 0, a, M, pa, pa2, hk, hM => by
    refine ⟨M, loopV_out (j := 0) ?_, hM, fun q => by rw [if_neg (by omega)]⟩
    show stepTakeA p s e a v4 v5 v6 v7 v8 v9 M A = _
    unfold stepTakeA
    extract_lets -merge x0 x1 x2 x3
    have e1 : x1 = p + (s.length : Int) := w64_in (by omega) (by omega)
    have e2 : x2 = min (p + (s.length : Int)) e := by show zmin x1 e = _; rw [zminE, e1]
    rw [if_neg (by show ¬ decide (a < x2) = true; rw [e2]; simp; omega)]
  | k + 1, a, M, pa, pa2, hk, hM => by
    have hlt : a < p + (s.length : Int) ∧ a < e := by omega
    have hst : spTakeA [.i p, .s s, .i e, .i a, .i v4, .i v5, .i v6, .i v7, .b v8, .i v9, .ls M, .ls A] = some (0, [.i p, .s s, .i e, .i (a + 1), .i v4, .i v5, .i v6, .i v7, .b v8, .i v9, .ls (if mfind a M = none then mput a (byt s (a - p)) M else M), .ls A]) := by
      show stepTakeA p s e a v4 v5 v6 v7 v8 v9 M A = _
      unfold stepTakeA
      extract_lets -merge x0 x1 x2 x3 x4 x5 x6 x7 x8 x9 x10 x11 x12 x13 x14
      have e1 : x1 = p + (s.length : Int) := w64_in (by omega) (by omega)
      have e2 : x2 = min (p + (s.length : Int)) e := by show zmin x1 e = _; rw [zminE, e1]
      have e6 : x6 = a - p := w64_in (by omega) (by omega)
      have e9 : x9 = true := by
        show (if decide (x6 ≥ 0) = true then decide (x6 < (s.length : Int)) else false) = true
        rw [e6, if_pos (by simp; omega)]; simp; omega
      have e10 : x10 = true := by show (if x5 = true then x9 else true) = true; rw [e9]; simp
      have e11 : x11 = a + 1 := w64_in (by omega) (by omega)
      have e14 : x14 = if mfind a M = none then mput a (byt s (a - p)) M else M := by
        show (if (!(mfind a M).isSome) = true then mput a (byt s x6) M else M) = _
        rw [e6]
        cases hq : mfind a M with
        | none => rw [if_pos rfl, if_pos (by rfl)]
        | some x => rw [if_neg (by simp), if_neg (by simp)]
      rw [if_pos (by show decide (a < x2) = true; rw [e2]; simp; omega), if_pos e10, e11, e14]
    have hM2 : nd (if mfind a M = none then mput a (byt s (a - p)) M else M) := by split; exact nd_mput hM; exact hM
    obtain ⟨M', h1, h2, h3⟩ := takeA_loop (p := p) (e := e) (s := s) (v4 := v4) (v5 := v5) (v6 := v6) (v7 := v7) (v8 := v8) (v9 := v9) (A := A) p0 hs k (a + 1) _ (by omega) (by omega) (by omega) hM2
    refine ⟨M', (loopV_again hst).trans h1, h2, fun q => ?_⟩
    rw [h3 q]
    by_cases hqa : q = a
    · subst hqa
      rw [if_neg (by omega)]
      by_cases hn : mfind q M = none
      · rw [if_pos hn, mfind_mput, if_pos rfl, if_pos ⟨by omega, hlt.1, hlt.2, hn⟩]
      · rw [if_neg hn, if_neg (fun h => hn h.2.2.2)]
    · have hf : mfind q (if mfind a M = none then mput a (byt s (a - p)) M else M) = mfind q M := by
        split
        · rw [mfind_mput, if_neg hqa]
        · rfl
      rw [hf]
      by_cases hc : a ≤ q ∧ q < p + (s.length : Int) ∧ q < e ∧ mfind q M = none
      · rw [if_pos ⟨by omega, hc.2.1, hc.2.2.1, hc.2.2.2⟩, if_pos hc]
      · rw [if_neg (fun h => hc ⟨by omega, h.2.1, h.2.2.1, h.2.2.2⟩), if_neg hc]
theorem push1 {R f c b : Int} {nn : Bool} {A : List D} (hR : 0 < R) (hR2 : R ≤ 65535) (hf : 0 ≤ f) (hf2 : f < R) (hc : 0 ≤ c) (hc2 : c < R) (hA : (A.length : Int) = R) :
    loopV spPush [.i 1, .b true, .i 1, .i 1, .i 0, .i R, .i f, .i c, .b nn, .i R, .ls [.i b], .ls A] = some (1, [.i 1, .i R, .i f, .i c, .b nn, .i R, .ls [.i b], .ls (A.set (rd f c R).toNat (.i b))]) := by
  have hs : spPush [.i 1, .b true, .i 1, .i 1, .i 0, .i R, .i f, .i c, .b nn, .i R, .ls [.i b], .ls A] = some (0, [.i 1, .b true, .i 1, .i 1, .i 1, .i R, .i f, .i c, .b nn, .i R, .ls [.i b], .ls (A.set (rd f c R).toNat (.i b))]) := by
    show stepPush 1 true 1 1 0 R f c nn R [.i b] A = _
    unfold stepPush
    extract_lets -merge x0 x1 x2 x3 x4 x5 x6 x7 x8 x9 x10 x11 x12 x13 x14 x15 x16 x17 x18
    have b9 : 0 ≤ rd f c R ∧ rd f c R < R := by unfold rd; split <;> omega
    have e8 : x8 = f + c := by
      have e7 : x7 = f + c := w64_in (by omega) (by omega)
      show w64 (x7 + 0) = _
      rw [e7, w64_in (by omega) (by omega)]; omega
    have e9 : x9 = rd f c R := by show Int.tmod x8 R = _; rw [e8, tmod_rd (by omega) (by omega)]; rfl
    have e12 : x12 = true := by show (if decide (x9 ≥ 0) = true then decide (x9 < R) else false) = true; rw [e9, if_pos (by simpa using b9.1)]; simpa using b9.2
    have e14 : x14 = true := by show decide (x9 < (A.length : Int)) = true; rw [e9, hA]; simpa using b9.2
    have e18 : x18 = A.set (rd f c R).toNat (.i b) := by show A.set x9.toNat _ = _; rw [e9]; rfl
    rw [if_pos (show x0 = true from rfl), if_pos (show x3 = true from rfl), if_pos (show x5 = true from rfl), if_pos (by show (R != 0) = true; simp; omega), if_pos e12, if_pos e14, e18]
    rfl
  rw [loopV_again hs]
  refine loopV_out (j := 0) ?_
  rfl
/-- What holds of a ring of bytes. -/
structure SI (R f c : Int) (nn : Bool) (al : Int) (A : List D) : Prop where
  R0 : 0 ≤ R
  R1 : R ≤ 65535
  f0 : 0 ≤ f
  f1 : f < R ∨ f = 0
  c0 : 0 ≤ c
  c1 : c ≤ R
  nz : nn = false → c = 0
  Al : nn = true → al = R ∧ (A.length : Int) = R
theorem H6 (d : D) : F3 6 d = .b (loopV spPush d.toL).isSome := by kernel_rfl
theorem H8 (d : D) : F3 8 d = .ls (match loopV spPush d.toL with | some (_, ys) => ys | none => []) := by kernel_rfl
theorem takeB_out {e was R f nx c : Int} {nn : Bool} {al : Int} {M A : List D} (h : ¬ nx < e) :
    spTakeB [.i e, .i was, .i nx, .i R, .i f, .i c, .b nn, .i al, .ls M, .ls A] = some (1, [.i was, .i nx, .i R, .i f, .i c, .b nn, .i al, .ls M, .ls A]) := by
  show stepTakeB (F3 6) (F3 8) e was nx R f c nn al M A = _
  unfold stepTakeB
  extract_lets -merge x0
  rw [if_neg (by show ¬ decide (nx < e) = true; simpa using h)]
theorem takeB_gone {e was R f nx c : Int} {nn : Bool} {al : Int} {M A : List D} (h : nx < e) (hm : mfind nx M = none) :
    spTakeB [.i e, .i was, .i nx, .i R, .i f, .i c, .b nn, .i al, .ls M, .ls A] = some (1, [.i was, .i nx, .i R, .i f, .i c, .b nn, .i al, .ls M, .ls A]) := by
  show stepTakeB (F3 6) (F3 8) e was nx R f c nn al M A = _
  unfold stepTakeB
  extract_lets -merge x0 x1 x2
  rw [if_pos (by show decide (nx < e) = true; simpa using h), if_pos (by show (!(mfind nx M).isSome) = true; rw [hm]; rfl)]
theorem takeB_step {e was R f nx c : Int} {nn : Bool} {al b : Int} {M A : List D} (hI : SI R f c nn al A) (h : nx < e) (h0 : 0 ≤ nx) (he : e ≤ 4611686018427387904) (hc : c < R) (hm : mfind nx M = some b) :
    ∃ (nn' : Bool) (al' : Int) (A' : List D), spTakeB [.i e, .i was, .i nx, .i R, .i f, .i c, .b nn, .i al, .ls M, .ls A] = some (0, [.i e, .i was, .i (nx + 1), .i R, .i f, .i (c + 1), .b nn', .i al', .ls (mdel nx M), .ls A']) ∧ SI R f (c + 1) nn' al' A' ∧
      (∀ j, 0 ≤ j → j < c → at' A' (rd f j R) = at' A (rd f j R)) ∧ at' A' (rd f c R) = b := by
  obtain ⟨R0, R1, f0, f1, c0, c1, nz, Al⟩ := hI
  show ∃ nn' al' A', stepTakeB (F3 6) (F3 8) e was nx R f c nn al M A = _ ∧ _
  unfold stepTakeB
  extract_lets -merge x0 x1 x2 x3 x4 x5 x6 x7 x8 x9 x10 x11 x12 x13 x14 x15 x16 x17 x18 x19 x20 x21 x22 x23 x24 x25 x26 x27 x28 x29 x30 x31 x32 x33 x34 x35 x36 x37 x38 x39 x40 x41 x42 x43 x44 x45 x46 x47 x48 x49 x50 x51 x52 x53 x54 x55 x56 x57 x58 x59 x60 x61 x62 x63 x64
  have e0 : x0 = true := by show decide (nx < e) = true; simpa using h
  have e2 : ¬ x2 = true := by show ¬ (!(mfind nx M).isSome) = true; rw [hm]; simp
  have e3 : x3 = R - c := w64_in (by omega) (by omega)
  have e4 : x4 = 1 := by show zmin 1 x3 = 1; rw [zminE, e3]; omega
  have e5 : ¬ x5 = true := by show ¬ decide (x4 ≤ 0) = true; rw [e4]; decide
  have e14 : x14 = true := by show (if decide (x4 ≥ 0) = true then decide (x4 ≤ 1) else false) = true; rw [e4]; rfl
  have e9 : x9 = true := by show (if decide (R ≥ 0) = true then decide (R ≤ 1099511627776) else false) = true; rw [if_pos (by simpa using R0)]; simp; omega
  have e54 : x54 = nx + 1 := w64_in (by omega) (by omega)
  have e56 : x56 = c + 1 := by show w64 (c + x4) = _; rw [e4, w64_in (by omega) (by omega)]
  have e17 : x17 = b := by show (mfind nx M).getD 0 = b; rw [hm]; rfl
  have hrd : 0 ≤ rd f c R ∧ rd f c R < R := by unfold rd; split <;> omega
  have others : ∀ (A0 : List D), (A0.length : Int) = R → (∀ j, 0 ≤ j → j < c → at' (A0.set (rd f c R).toNat (.i b)) (rd f j R) = at' A0 (rd f j R)) ∧ at' (A0.set (rd f c R).toNat (.i b)) (rd f c R) = b := by
    intro A0 hA0
    refine ⟨fun j hj0 hj => ?_, ?_⟩
    · have hj8 : 0 ≤ rd f j R := by unfold rd; split <;> omega
      rw [at_set hrd.1 hj8 (by omega), if_neg (by unfold rd; split <;> split <;> omega)]
    · rw [at_set hrd.1 hrd.1 (by omega), if_pos rfl]
  cases hn : nn with
  | false =>
    have hc00 : c = 0 := nz hn
    have e6 : x6 = true := by show (!nn) = true; rw [hn]; rfl
    have p1 : loopV spPush x31 = some (1, [.i 1, .i R, .i f, .i c, .b true, .i R, .ls [.i b], .ls (x19.set (rd f c R).toNat (.i b))]) := by
      show loopV spPush [.i x4, .b true, .i x4, .i x4, .i 0, .i R, .i f, .i c, .b true, .i R, .ls [.i x17], .ls x19] = _
      rw [e4, e17]
      exact push1 (by omega) R1 f0 (by omega) c0 hc (by show ((List.replicate R.toNat (D.i 0)).length : Int) = R; simp; omega)
    have e33 : x33 = true := by show (F3 6 (D.ls x31)).toB = true; rw [H6, show (D.ls x31).toL = x31 from rfl, p1]; rfl
    have e60 : x60 = x19.set (rd f c R).toNat (.i b) := by show (((F3 8 (D.ls x31)).toL).getD 7 (.i 0)).toL = _; rw [H8, show (D.ls x31).toL = x31 from rfl, p1]; rfl
    rw [if_pos e0, if_neg e2, if_pos ((if_neg e5).trans ((if_pos e6).trans e9)), if_pos ((if_neg e5).trans ((if_pos e6).trans e14)), if_pos ((if_neg e5).trans ((if_pos e6).trans e33)), if_pos ((if_neg e5).trans (if_pos e6)), if_pos ((if_neg e5).trans (if_pos e6)), if_neg e5, if_pos e6, e54, e56, e60]
    have hl : (x19.length : Int) = R := by show ((List.replicate R.toNat (D.i 0)).length : Int) = R; simp; omega
    exact ⟨true, R, _, rfl, ⟨R0, R1, f0, f1, by omega, by omega, (fun hh => by cases hh), fun _ => ⟨rfl, by rw [List.length_set]; exact hl⟩⟩, fun j hj0 hj => by omega, (others x19 hl).2⟩
  | true =>
    obtain ⟨hal, hAl⟩ := Al hn
    subst hal
    have e6 : ¬ x6 = true := by show ¬ (!nn) = true; rw [hn]; decide
    have p1 : loopV spPush x49 = some (1, [.i 1, .i al, .i f, .i c, .b nn, .i al, .ls [.i b], .ls (A.set (rd f c al).toNat (.i b))]) := by
      show loopV spPush [.i x4, .b true, .i x4, .i x4, .i 0, .i al, .i f, .i c, .b nn, .i al, .ls [.i x17], .ls A] = _
      rw [e4, e17]
      exact push1 (by omega) R1 f0 (by omega) c0 hc hAl
    have e51 : x51 = true := by show (F3 6 (D.ls x49)).toB = true; rw [H6, show (D.ls x49).toL = x49 from rfl, p1]; rfl
    have e64 : x64 = A.set (rd f c al).toNat (.i b) := by show (((F3 8 (D.ls x49)).toL).getD 7 (.i 0)).toL = _; rw [H8, show (D.ls x49).toL = x49 from rfl, p1]; rfl
    rw [if_pos e0, if_neg e2, if_pos ((if_neg e5).trans (if_neg e6)), if_pos ((if_neg e5).trans (if_neg e6)), if_pos ((if_neg e5).trans (if_neg e6)), if_pos ((if_neg e5).trans ((if_neg e6).trans e14)), if_pos ((if_neg e5).trans ((if_neg e6).trans e51)), if_neg e5, if_neg e6, e54, e56, e64]
    exact ⟨_, al, _, rfl, ⟨R0, R1, f0, f1, by omega, by omega, (fun hh => by simp at hh), fun _ => ⟨rfl, by rw [List.length_set]; exact hAl⟩⟩, (others A hAl).1, (others A hAl).2⟩
theorem takeB_loop {e was R f : Int} : ∀ (k : Nat) (nx c : Int) (nn : Bool) (al : Int) (M A : List D), SI R f c nn al A → nd M → 0 ≤ nx → e ≤ 4611686018427387904 → e - nx = k → e - nx = R - c →
    ∃ (t : Int) (nn' : Bool) (al' : Int) (M' A' : List D), loopV spTakeB [.i e, .i was, .i nx, .i R, .i f, .i c, .b nn, .i al, .ls M, .ls A] = some (1, [.i was, .i (nx + t), .i R, .i f, .i (c + t), .b nn', .i al', .ls M', .ls A']) ∧
      0 ≤ t ∧ t ≤ e - nx ∧ SI R f (c + t) nn' al' A' ∧ nd M' ∧ (∀ j, 0 ≤ j → j < t → mfind (nx + j) M ≠ none) ∧ (nx + t = e ∨ mfind (nx + t) M = none) ∧
      (∀ q, mfind q M' = if nx ≤ q ∧ q < nx + t then none else mfind q M) ∧ (M'.length : Int) = (M.length : Int) - t ∧
      (∀ j, 0 ≤ j → j < c → at' A' (rd f j R) = at' A (rd f j R)) ∧ (∀ j, 0 ≤ j → j < t → at' A' (rd f (c + j) R) = (mfind (nx + j) M).getD 0) := by
  have stop : ∀ (nx c : Int) (nn : Bool) (al : Int) (M A : List D), SI R f c nn al A → nd M → nx ≤ e → (nx = e ∨ mfind nx M = none) → spTakeB [.i e, .i was, .i nx, .i R, .i f, .i c, .b nn, .i al, .ls M, .ls A] = some (1, [.i was, .i nx, .i R, .i f, .i c, .b nn, .i al, .ls M, .ls A]) →
      ∃ (t : Int) (nn' : Bool) (al' : Int) (M' A' : List D), loopV spTakeB [.i e, .i was, .i nx, .i R, .i f, .i c, .b nn, .i al, .ls M, .ls A] = some (1, [.i was, .i (nx + t), .i R, .i f, .i (c + t), .b nn', .i al', .ls M', .ls A']) ∧
      0 ≤ t ∧ t ≤ e - nx ∧ SI R f (c + t) nn' al' A' ∧ nd M' ∧ (∀ j, 0 ≤ j → j < t → mfind (nx + j) M ≠ none) ∧ (nx + t = e ∨ mfind (nx + t) M = none) ∧
      (∀ q, mfind q M' = if nx ≤ q ∧ q < nx + t then none else mfind q M) ∧ (M'.length : Int) = (M.length : Int) - t ∧
      (∀ j, 0 ≤ j → j < c → at' A' (rd f j R) = at' A (rd f j R)) ∧ (∀ j, 0 ≤ j → j < t → at' A' (rd f (c + j) R) = (mfind (nx + j) M).getD 0) := by
    intro nx c nn al M A hI hM hle hst hs
    refine ⟨0, nn, al, M, A, ?_, by omega, by omega, by rw [show c + 0 = c by omega]; exact hI, hM, fun j h1 h2 => by omega, by rw [show nx + 0 = nx by omega]; exact hst, fun q => by rw [if_neg (by omega)], by omega, fun _ _ _ => rfl, fun j h1 h2 => by omega⟩
    rw [show nx + 0 = nx by omega, show c + 0 = c by omega]
    exact loopV_out (j := 0) hs
  intro k
  induction k with
  | zero =>
    intro nx c nn al M A hI hM h0 he hk hR
    exact stop nx c nn al M A hI hM (by omega) (.inl (by omega)) (takeB_out (by omega))
  | succ k ih =>
    intro nx c nn al M A hI hM h0 he hk hR
    cases hm : mfind nx M with
    | none => exact stop nx c nn al M A hI hM (by omega) (.inr hm) (takeB_gone (by omega) hm)
    | some b =>
      obtain ⟨nn1, al1, A1, hs, hI1, hA1, hA1b⟩ := takeB_step (was := was) hI (by omega) h0 he (by omega) hm
      obtain ⟨t, nn', al', M', A', g1, g2, g3, g4, g5, g6, g7, g8, g9, g10, g11⟩ := ih (nx + 1) (c + 1) nn1 al1 (mdel nx M) A1 hI1 (nd_mdel hM) (by omega) he (by omega) (by omega)
      have hfd : ∀ q, q ≠ nx → mfind q (mdel nx M) = mfind q M := fun q hq => by rw [mfind_mdel hM, if_neg hq]
      refine ⟨t + 1, nn', al', M', A', ?_, by omega, by omega, by rw [show c + (t + 1) = c + 1 + t by omega]; exact g4, g5, ?_, ?_, ?_, ?_, ?_, ?_⟩
      · rw [loopV_again hs, g1, show nx + 1 + t = nx + (t + 1) by omega, show c + 1 + t = c + (t + 1) by omega]
      · intro j h1 h2
        by_cases hj : j = 0
        · rw [hj, show nx + 0 = nx by omega, hm]; simp
        · have := g6 (j - 1) (by omega) (by omega)
          rw [show nx + 1 + (j - 1) = nx + j by omega, hfd _ (by omega)] at this
          exact this
      · rw [show nx + (t + 1) = nx + 1 + t by omega]
        rcases g7 with g7 | g7
        · exact .inl g7
        · right; rw [hfd _ (by omega)] at g7; exact g7
      · intro q
        rw [g8 q]
        by_cases hq : q = nx
        · subst hq
          rw [if_neg (by omega), if_pos (by omega), mfind_mdel hM, if_pos rfl]
        · rw [hfd q hq]
          by_cases hc : nx ≤ q ∧ q < nx + (t + 1)
          · rw [if_pos hc, if_pos (by omega)]
          · rw [if_neg hc, if_neg (by omega)]
      · have := len_mdel (k := nx) (M := M) (by rw [hm]; rfl)
        omega
      · intro j h1 h2
        rw [g10 j h1 (by omega), hA1 j h1 h2]
      · intro j h1 h2
        by_cases hj : j = 0
        · subst hj
          rw [show c + 0 = c by omega, show nx + 0 = nx by omega, hm, g10 c (by have := hI.c0; omega) (by omega), hA1b]; rfl
        · have := g11 (j - 1) (by omega) (by omega)
          rw [show c + 1 + (j - 1) = c + j by omega, show nx + 1 + (j - 1) = nx + j by omega, hfd _ (by omega)] at this
          exact this
theorem peekB_loop {t R f c : Int} {A : List D} {b : Bool} (hR : 0 < R) (hR2 : R ≤ 65535) (hf : 0 ≤ f) (hf2 : f < R) (ht : t ≤ c) (hcR : c ≤ R) (hA : (A.length : Int) = R) : ∀ (k : Nat) (i : Int) (B : List D), 0 ≤ i → t - i = k → (B.length : Int) = t →
    (∀ j, 0 ≤ j → j < i → at' B j = at' A (rd f j R)) →
    ∃ B', loopV spPeek [.i 0, .b true, .i t, .i t, .i i, .i R, .i f, .i c, .b b, .i R, .ls B, .ls A] = some (1, [.b true, .i t, .ls B', .i R, .i f, .i c, .b b, .i R, .ls A]) ∧ (B'.length : Int) = t ∧
      ∀ j, 0 ≤ j → j < t → at' B' j = at' A (rd f j R)
  | 0, i, B, hi, hk, hB, ho => by
    refine ⟨B, loopV_out (j := 0) ?_, hB, fun j hj0 hj => ho j hj0 (by omega)⟩
    show stepPeek 0 true t t i R f c b R B A = _
    unfold stepPeek
    extract_lets -merge x0
    rw [if_neg (by show ¬ decide (i < t) = true; simp; omega)]
  | k + 1, i, B, hi, hk, hB, ho => by
    have b8 : 0 ≤ rd f i R ∧ rd f i R < R := by unfold rd; split <;> omega
    have hs : spPeek [.i 0, .b true, .i t, .i t, .i i, .i R, .i f, .i c, .b b, .i R, .ls B, .ls A] = some (0, [.i 0, .b true, .i t, .i t, .i (i + 1), .i R, .i f, .i c, .b b, .i R, .ls (B.set i.toNat (.i (at' A (rd f i R)))), .ls A]) := by
      show stepPeek 0 true t t i R f c b R B A = _
      unfold stepPeek
      extract_lets -merge x0 x1 x2 x3 x4 x5 x6 x7 x8 x9 x10 x11 x12 x13 x14 x15 x16 x17 x18
      have e3 : x3 = f + i := by
        have e2 : x2 = f + 0 := w64_in (by omega) (by omega)
        show w64 (x2 + i) = _
        rw [e2, w64_in (by omega) (by omega)]; omega
      have e4 : x4 = rd f i R := by
        show Int.tmod x3 R = _
        rw [e3, tmod_rd (by omega) (by omega)]; rfl
      have e15 : x15 = i + 1 := w64_in (by omega) (by omega)
      have e18 : x18 = B.set i.toNat (.i (at' A (rd f i R))) := by show B.set i.toNat (.i (at' A x4)) = _; rw [e4]
      rw [if_pos (by show decide (i < t) = true; simp; omega), if_pos (by show (R != 0) = true; simp; omega),
        if_pos (by show (if decide (x4 ≥ 0) = true then decide (x4 < R) else false) = true; rw [e4, if_pos (by simpa using b8.1)]; simpa using b8.2),
        if_pos (by show decide (x4 < (A.length : Int)) = true; rw [e4, hA]; simpa using b8.2),
        if_pos (by show (if decide (i ≥ 0) = true then decide (i < t) else false) = true; rw [if_pos (by simpa using hi)]; simp; omega),
        if_pos (by show decide (i < (B.length : Int)) = true; rw [hB]; simp; omega), e15, e18]
    obtain ⟨B', h1, h2, h3⟩ := peekB_loop hR hR2 hf hf2 ht hcR hA k (i + 1) (B.set i.toNat (.i (at' A (rd f i R)))) (by omega) (by omega) (by simpa using hB) (by
      intro j hj0 hj
      rw [at_set hi hj0 (by omega)]
      by_cases h : j = i
      · subst h; rw [if_pos rfl]
      · rw [if_neg h]; exact ho j hj0 (by omega))
    exact ⟨B', (loopV_again hs).trans h1, h2, h3⟩
set_option maxHeartbeats 4000000 in
/-- Read, as it is called. -/
theorem read_spec {g h : D → D} (hg : ∀ d, g d = .b (loopV spPeek d.toL).isSome) (hh : ∀ d, h d = .ls (match loopV spPeek d.toL with | some (_, ys) => ys | none => [])) {n nx R f c : Int} {nn : Bool} {al : Int} {M A : List D} (hI : SI R f c nn al A) :
    ∃ (f' : Int) (bs : List UInt8), stepRead g h n nx R f c nn al M A = some (1, [.s bs, .i nx, .i R, .i f', .i (c - min (max n 0) c), .b nn, .i al, .ls M, .ls A]) ∧ SI R f' (c - min (max n 0) c) nn al A ∧ (bs.length : Int) = min (max n 0) c ∧
      (∀ j, 0 ≤ j → j < c - min (max n 0) c → rd f' j R = rd f (min (max n 0) c + j) R) ∧ ∀ j, 0 ≤ j → j < min (max n 0) c → bs.getD j.toNat 0 = UInt8.ofNat (at' A (rd f j R)).toNat := by
  obtain ⟨R0, R1, f0, f1, c0, c1, nz, Al⟩ := hI
  unfold stepRead
  extract_lets -merge x0 x1 x2 x3 x4 x5 x6 x7 x8 x9 x10 x11 x12 x13 x14 x15 x16 x17 x18 x19 x20 x21 x22 x23 x24 x25 x26 x27 x28 x29 x30 x31 x32 x33 x34 x35 x36 x37 x38 x39 x40 x41 x42 x43 x44 x45 x46 x47 x48 x49 x50 x51
  generalize ht : min (max n 0) c = t
  have e26 : x26 = t := by show zmin (zmax n 0) c = t; rw [zminE, zmaxE]; exact ht
  have e41 : x41 = R := by show (if x2 = true then R else R) = R; split <;> rfl
  have e49 : x49 = nn := by show (if x2 = true then nn else nn) = nn; split <;> rfl
  have e50 : x50 = al := by show (if x2 = true then al else al) = al; split <;> rfl
  have e51 : x51 = A := by show (if x2 = true then A else A) = A; split <;> rfl
  have e48 : x48 = c - t := by
    have e47 : x47 = c - t := by
      show (if (x26 == 0) = true then c else w64 (c - x26)) = _
      rw [e26]
      by_cases q : t = 0
      · rw [if_pos (by rw [q]; rfl)]; omega
      · rw [if_neg (by simpa using q), w64_in (by omega) (by omega)]
    show (if x2 = true then x47 else x47) = _
    rw [e47]; split <;> rfl
  have e29 : x29 = true := by
    show (if (x26 == 0) = true then true else (R != 0)) = true
    rw [e26]
    by_cases q : t = 0
    · rw [if_pos (by rw [q]; rfl)]
    · rw [if_neg (by simpa using q)]; simp; omega
  obtain ⟨f', e45, hf0, hf1, hfr⟩ : ∃ f', x45 = f' ∧ 0 ≤ f' ∧ (f' < R ∨ f' = 0) ∧ (∀ j, 0 ≤ j → j < c - t → rd f' j R = rd f (t + j) R) := by
    have h45 : x45 = x44 := by show (if x2 = true then x44 else x44) = x44; split <;> rfl
    by_cases q : t = 0
    · refine ⟨f, ?_, f0, f1, fun j hj0 hj => by rw [q, show (0 : Int) + j = j by omega]⟩
      rw [h45]
      show (if (x26 == 0) = true then f else x43) = f
      rw [e26, if_pos (by rw [q]; rfl)]
    · refine ⟨rd f t R, ?_, by unfold rd; split <;> omega, .inl (by unfold rd; split <;> omega), fun j hj0 hj => by unfold rd; split <;> split <;> (try split) <;> omega⟩
      rw [h45]
      show (if (x26 == 0) = true then f else Int.tmod (w64 (f + x26)) R) = _
      rw [e26, if_neg (by simpa using q), w64_in (by omega) (by omega), tmod_rd (by omega) (by omega)]; rfl
  by_cases q2 : x2 = true
  · have ht0 : t = 0 := by
      have hx : (if decide (n ≤ 0) = true then true else decide ((0 : Int) ≥ c)) = true := q2
      by_cases r : n ≤ 0
      · omega
      · rw [if_neg (by simpa using r)] at hx
        have : (0 : Int) ≥ c := by simpa using hx
        omega
    have e40 : x40 = [] := if_pos q2
    rw [if_pos (if_pos q2), if_pos (if_pos q2), if_pos ((if_pos q2).trans e29), if_pos (if_pos q2), if_pos (if_pos q2), e40, e41, e45, e48, e49, e50, e51]
    exact ⟨f', [], rfl, ⟨R0, R1, hf0, hf1, by omega, by omega, fun hq => by have := nz hq; omega, Al⟩, by simp; omega, hfr, fun j h1 h2 => by omega⟩
  · have hn : 0 < n ∧ 0 < c := by
      have hx : ¬ (if decide (n ≤ 0) = true then true else decide ((0 : Int) ≥ c)) = true := q2
      by_cases r : n ≤ 0
      · rw [if_pos (by simpa using r)] at hx; exact absurd rfl hx
      · rw [if_neg (by simpa using r)] at hx
        simp at hx
        omega
    have e4 : x4 = t := by show zmin n (w64 (c - 0)) = t; rw [zminE, w64_in (by omega) (by omega)]; omega
    have hnn : nn = true := by cases hq : nn with | true => rfl | false => have := nz hq; omega
    obtain ⟨hal, hAl⟩ := Al hnn
    obtain ⟨B, p1, p2, p3⟩ := peekB_loop (t := t) (R := R) (f := f) (c := c) (A := A) (b := nn) (by omega) R1 f0 (by omega) (by omega) c1 hAl t.toNat 0 x9 (by omega) (by omega) (by show ((List.replicate x4.toNat (D.i 0)).length : Int) = t; rw [e4]; simp; omega) (by intro j hj0 hj; omega)
    have p1 : loopV spPeek x21 = some (1, [.b true, .i t, .ls B, .i R, .i f, .i c, .b nn, .i R, .ls A]) := by
      show loopV spPeek [.i 0, .b true, .i x4, .i x4, .i 0, .i R, .i f, .i c, .b nn, .i al, .ls x9, .ls A] = _
      rw [e4, hal]; exact p1
    have e23 : x23 = true := by show (g (D.ls x21)).toB = true; rw [hg, show (D.ls x21).toL = x21 from rfl, p1]; rfl
    have e34 : D.toL x34 = B := by show ((D.toL (h (D.ls x21))).getD 2 (.i 0)).toL = B; rw [hh, show (D.ls x21).toL = x21 from rfl, p1]; rfl
    have e7 : x7 = true := by show (if decide (x4 ≥ 0) = true then decide (x4 ≤ 1099511627776) else false) = true; rw [e4, if_pos (by simp; omega)]; simp; omega
    have e36 : x36 = true := by show decide (x4 ≤ ((D.toL x34).length : Int)) = true; rw [e34, e4]; simp; omega
    have e38 : x38 = B := by
      show ((D.toL x34).drop (Int.toNat 0)).take (x4.toNat - Int.toNat 0) = B
      rw [e34, e4]
      have : t.toNat - Int.toNat 0 = B.length := by omega
      rw [this]; simp
    have e40 : x40 = strOfL B := by
      have : x40 = x39 := if_neg q2
      rw [this]; show strOfL x38 = _; rw [e38]
    rw [if_pos ((if_neg q2).trans e7), if_pos ((if_neg q2).trans e23), if_pos (if_neg q2), if_pos ((if_neg q2).trans e29), if_pos ((if_neg q2).trans e36), e40, e41, e45, e48, e49, e50, e51]
    refine ⟨f', strOfL B, rfl, ⟨R0, R1, hf0, hf1, by omega, by omega, fun hq => by have := nz hq; omega, Al⟩, by unfold strOfL; rw [List.length_map]; exact p2, hfr, fun j h1 h2 => ?_⟩
    rw [← p3 j h1 h2]
    unfold strOfL at'
    rw [List.getD_eq_getElem?_getD, List.getElem?_map, List.getD_eq_getElem?_getD, List.getElem?_eq_getElem (by omega)]; rfl
/-- Take, as it is called. M1: what is early when all of the piece is laid. -/
theorem take_spec {g3 g9 g5 g11 : D → D} (h3 : ∀ d, g3 d = .b (loopV spTakeA d.toL).isSome) (h5 : ∀ d, g5 d = .ls (match loopV spTakeA d.toL with | some (_, ys) => ys | none => []))
    (h9 : ∀ d, g9 d = .b (loopV spTakeB d.toL).isSome) (h11 : ∀ d, g11 d = .ls (match loopV spTakeB d.toL with | some (_, ys) => ys | none => [])) {p nx R f c : Int} {s : List UInt8} {nn : Bool} {al : Int} {M A : List D}
    (hI : SI R f c nn al A) (hM : nd M) (n0 : 0 ≤ nx) (n1 : nx ≤ 2305843009213693952) (p0 : 0 ≤ p) (p1 : p ≤ 1099511627776) (hs : (s.length : Int) ≤ 2305843009213693952) :
    ∃ (t : Int) (nn' : Bool) (al' : Int) (M1 M' A' : List D), stepTake g3 g9 g5 g11 p s nx R f c nn al M A = some (1, [.i t, .i (nx + t), .i R, .i f, .i (c + t), .b nn', .i al', .ls M', .ls A']) ∧
      (∀ q, mfind q M1 = if max p nx ≤ q ∧ q < p + (s.length : Int) ∧ q < nx + (R - c) ∧ mfind q M = none then some (byt s (q - p)) else mfind q M) ∧ nd M1 ∧
      0 ≤ t ∧ t ≤ R - c ∧ SI R f (c + t) nn' al' A' ∧ nd M' ∧ (∀ j, 0 ≤ j → j < t → mfind (nx + j) M1 ≠ none) ∧ (nx + t = nx + (R - c) ∨ mfind (nx + t) M1 = none) ∧
      (∀ q, mfind q M' = if nx ≤ q ∧ q < nx + t then none else mfind q M1) ∧ (M'.length : Int) = (M1.length : Int) - t ∧
      (∀ j, 0 ≤ j → j < c → at' A' (rd f j R) = at' A (rd f j R)) ∧ (∀ j, 0 ≤ j → j < t → at' A' (rd f (c + j) R) = (mfind (nx + j) M1).getD 0) := by
  have hI' := hI
  obtain ⟨R0, R1, f0, f1, c0, c1, nz, Al⟩ := hI
  unfold stepTake
  extract_lets -merge x0 x1 x2 x3 x4 x5 x6 x7 x8 x9 x10 x11 x12 x13 x14 x15 x16 x17 x18 x19 x20 x21 x22 x23 x24 x25 x26 x27 x28 x29 x30 x31 x32 x33 x34 x35 x36 x37 x38 x39 x40 x41 x42 x43 x44 x45 x46 x47 x48 x49 x50 x51
  have e2 : ¬ x2 = true := by
    show ¬ (if decide (p < 0) = true then true else decide (p > 1099511627776)) = true
    rw [if_neg (by simpa using p0)]; simpa using p1
  have e4 : x4 = nx + (R - c) := by show w64 (nx + w64 (R - c)) = _; rw [w64_in (n := R - c) (by omega) (by omega), w64_in (by omega) (by omega)]
  have e5 : x5 = max p nx := by show zmax p nx = _; rw [zmaxE]
  obtain ⟨M1, a1, a2, a3⟩ := takeA_loop (p := p) (e := nx + (R - c)) (s := s) (v4 := nx) (v5 := R) (v6 := f) (v7 := c) (v8 := nn) (v9 := al) (A := A) p0 (by omega) (max (max p nx) (min (p + (s.length : Int)) (nx + (R - c))) - max p nx).toNat (max p nx) M (by omega) (by omega) (by omega) hM
  have a1 : loopV spTakeA x17 = some (1, [.i (nx + (R - c)), .i nx, .i R, .i f, .i c, .b nn, .i al, .ls M1, .ls A]) := by
    show loopV spTakeA [.i p, .s s, .i x4, .i x5, .i nx, .i R, .i f, .i c, .b nn, .i al, .ls M, .ls A] = _
    rw [e4, e5]; exact a1
  have e19 : x19 = true := by show (g3 (D.ls x17)).toB = true; rw [h3, show (D.ls x17).toL = x17 from rfl, a1]; rfl
  have e24 : x24 = M1 := by show ((D.toL (g5 (D.ls x17))).getD 7 (.i 0)).toL = M1; rw [h5, show (D.ls x17).toL = x17 from rfl, a1]; rfl
  obtain ⟨t, nn', al', M', A', b1, b2, b3, b4, b5, b6, b7, b8, b9, b10, b11⟩ := takeB_loop (e := nx + (R - c)) (was := nx) (R := R) (f := f) (R - c).toNat nx c nn al M1 A hI' a2 n0 (by omega) (by omega) (by omega)
  have b1 : loopV spTakeB x33 = some (1, [.i nx, .i (nx + t), .i R, .i f, .i (c + t), .b nn', .i al', .ls M', .ls A']) := by
    show loopV spTakeB [.i x4, .i nx, .i nx, .i R, .i f, .i c, .b nn, .i al, .ls x24, .ls A] = _
    rw [e4, e24]; exact b1
  have e35 : x35 = true := by show (g9 (D.ls x33)).toB = true; rw [h9, show (D.ls x33).toL = x33 from rfl, b1]; rfl
  have e38 : x38 = [.i nx, .i (nx + t), .i R, .i f, .i (c + t), .b nn', .i al', .ls M', .ls A'] := by show D.toL (g11 (D.ls x33)) = _; rw [h11, show (D.ls x33).toL = x33 from rfl, b1]; rfl
  have e39 : D.toI x39 = nx + t := by show (x38.getD 1 (.i 0)).toI = _; rw [e38]; rfl
  have e40 : x40 = t := by show w64 (D.toI x39 - nx) = t; rw [e39, w64_in (by omega) (by omega)]; omega
  have e41 : x41 = nx + t := e39
  have e43 : x43 = c + t := by show (x38.getD 4 (.i 0)).toI = _; rw [e38]; rfl
  have e45 : x45 = nn' := by show (x38.getD 5 (.i 0)).toB = _; rw [e38]; rfl
  have e47 : x47 = al' := by show (x38.getD 6 (.i 0)).toI = _; rw [e38]; rfl
  have e49 : x49 = M' := by show (x38.getD 7 (.i 0)).toL = _; rw [e38]; rfl
  have e51 : x51 = A' := by show (x38.getD 8 (.i 0)).toL = _; rw [e38]; rfl
  rw [if_pos ((if_neg e2).trans e19), if_pos ((if_neg e2).trans e35), if_neg e2, e40, e41, e43, e45, e47, e49, e51]
  exact ⟨t, nn', al', M1, M', A', rfl, a3, a2, b2, by omega, b4, b5, b6, b7, b8, b9, b10, b11⟩
theorem take_far {g3 g9 g5 g11 : D → D} {p nx R f c : Int} {s : List UInt8} {nn : Bool} {al : Int} {M A : List D} (h : p < 0 ∨ p > 1099511627776) :
    stepTake g3 g9 g5 g11 p s nx R f c nn al M A = some (1, [.i 0, .i nx, .i R, .i f, .i c, .b nn, .i al, .ls M, .ls A]) := by
  unfold stepTake
  extract_lets -merge x0 x1 x2 x3 x4 x5 x6 x7 x8 x9 x10 x11 x12 x13 x14 x15 x16 x17 x18 x19 x20 x21 x22 x23 x24 x25 x26 x27 x28 x29 x30 x31 x32 x33 x34 x35 x36 x37 x38 x39 x40 x41 x42 x43 x44 x45 x46 x47 x48 x49 x50 x51
  have e2 : x2 = true := by
    show (if decide (p < 0) = true then true else decide (p > 1099511627776)) = true
    by_cases q : p < 0
    · rw [if_pos (by simpa using q)]
    · rw [if_neg (by simpa using q)]; simp; omega
  rw [if_pos (if_pos e2), if_pos (if_pos e2), if_pos e2]
/-! ### what a stream of pieces of one text holds -/
/-- distinct whole numbers in [a, b): no more than b - a of them -/
theorem nodup_len : ∀ (k : Nat) (a : Int) (l : List Int), l.Nodup → (∀ x ∈ l, a ≤ x ∧ x < a + k) → l.length ≤ k
  | 0, a, [], _, _ => by simp
  | 0, a, x :: l, _, h => by have := h x (by simp); omega
  | k + 1, a, l, hn, h => by
    have h1 := nodup_len k (a + 1) (l.erase a) (hn.erase a) (fun x hx => by
      have hx' : x ∈ l := List.mem_of_mem_erase hx
      have hne : x ≠ a := fun e => by subst e; exact (List.Nodup.not_mem_erase hn) hx
      have := h x hx'
      omega)
    by_cases ha : a ∈ l
    · have := List.length_erase_of_mem ha
      have : 0 < l.length := List.length_pos_of_mem ha
      omega
    · rw [List.erase_of_not_mem ha] at h1; omega
theorem mfind_mem {k : Int} {M : List D} (h : k ∈ M.map dkey) : mfind k M ≠ none := fun hh => mfind_none.1 hh h
theorem M_len {M : List D} {a b : Int} (hM : nd M) (hab : a ≤ b) (h : ∀ q, mfind q M ≠ none → a ≤ q ∧ q < b) : (M.length : Int) ≤ b - a := by
  have := nodup_len (b - a).toNat a (M.map dkey) hM (fun x hx => by have := h x (mfind_mem hx); omega)
  rw [List.length_map] at this
  omega
/-- T: the text; G: what has been read of it. -/
structure W (T G : List UInt8) (nx R f c : Int) (nn : Bool) (al : Int) (M A : List D) : Prop where
  si : SI R f c nn al A
  ndm : nd M
  cnx : c ≤ nx
  nxT : nx ≤ (T.length : Int)
  got : G = T.take (nx - c).toNat
  rdy : ∀ j, 0 ≤ j → j < c → at' A (rd f j R) = byt T (nx - c + j)
  erl : ∀ q v, mfind q M = some v → nx ≤ q ∧ q < (T.length : Int) ∧ q < nx + (R - c) ∧ v = byt T q
theorem byt_piece {T s : List UInt8} {p q : Int} (p0 : 0 ≤ p) (hq : p ≤ q) (hq2 : q < p + (s.length : Int)) (hs : s = (T.drop p.toNat).take s.length) : byt s (q - p) = byt T q := by
  unfold byt
  rw [hs, List.getD_eq_getElem?_getD, List.getD_eq_getElem?_getD, List.getElem?_take, if_pos (by omega), List.getElem?_drop, show p.toNat + (q - p).toNat = q.toNat by omega]
theorem byt_at {T : List UInt8} {q : Int} (h0 : 0 ≤ q) (h : q < (T.length : Int)) : UInt8.ofNat (byt T q).toNat = T.getD q.toNat 0 := by
  unfold byt
  rw [Int.toNat_natCast]
  exact UInt8.ofNat_toNat
theorem W_take {g3 g9 g5 g11 : D → D} (h3 : ∀ d, g3 d = .b (loopV spTakeA d.toL).isSome) (h5 : ∀ d, g5 d = .ls (match loopV spTakeA d.toL with | some (_, ys) => ys | none => []))
    (h9 : ∀ d, g9 d = .b (loopV spTakeB d.toL).isSome) (h11 : ∀ d, g11 d = .ls (match loopV spTakeB d.toL with | some (_, ys) => ys | none => [])) {T G : List UInt8} {p nx R f c : Int} {s : List UInt8} {nn : Bool} {al : Int} {M A : List D}
    (hW : W T G nx R f c nn al M A) (hT : (T.length : Int) ≤ 1099511627776) (p0 : 0 ≤ p) (hs : s = (T.drop p.toNat).take s.length) (ps : p + (s.length : Int) ≤ (T.length : Int)) :
    ∃ (t : Int) (nn' : Bool) (al' : Int) (M' A' : List D), stepTake g3 g9 g5 g11 p s nx R f c nn al M A = some (1, [.i t, .i (nx + t), .i R, .i f, .i (c + t), .b nn', .i al', .ls M', .ls A']) ∧
      W T G (nx + t) R f (c + t) nn' al' M' A' ∧ 0 ≤ t ∧ (p ≤ nx → nx < p + (s.length : Int) → c < R → 0 < t) := by
  obtain ⟨si, ndm, cnx, nxT, got, rdy, erl⟩ := hW
  have si' := si
  obtain ⟨R0, R1, f0, f1, c0, c1, nz, Al⟩ := si'
  obtain ⟨t, nn', al', M1, M', A', a1, a2, a3, a4, a5, a6, a7, a8, a9, a10, a11, a12, a13⟩ := take_spec h3 h5 h9 h11 (p := p) (nx := nx) (s := s) si ndm (by omega) (by omega) p0 (by omega) (by omega)
  have m1 : ∀ q v, mfind q M1 = some v → nx ≤ q ∧ q < (T.length : Int) ∧ q < nx + (R - c) ∧ v = byt T q := by
    intro q v hq
    rw [a2] at hq
    split at hq
    · rename_i h
      injection hq with hq
      refine ⟨by omega, by omega, h.2.2.1, ?_⟩
      rw [← hq]; exact byt_piece p0 (by omega) h.2.1 hs
    · exact erl q v hq
  have some1 : ∀ {q}, mfind q M1 ≠ none → ∃ v, mfind q M1 = some v := by
    intro q hq
    cases h : mfind q M1 with
    | none => exact absurd h hq
    | some v => exact ⟨v, rfl⟩
  have nt : nx + t ≤ (T.length : Int) := by
    by_cases q : t = 0
    · omega
    · obtain ⟨v, hv⟩ := some1 (a8 (t - 1) (by omega) (by omega))
      have := m1 _ _ hv
      omega
  refine ⟨t, nn', al', M', A', a1, ⟨a6, a7, by omega, nt, ?_, ?_, ?_⟩, a4, ?_⟩
  · rw [got, show nx + t - (c + t) = nx - c by omega]
  · intro j j0 j1
    rw [show nx + t - (c + t) + j = nx - c + j by omega]
    by_cases q : j < c
    · rw [a12 j j0 q]; exact rdy j j0 q
    · have e := a13 (j - c) (by omega) (by omega)
      rw [show c + (j - c) = j by omega] at e
      obtain ⟨v, hv⟩ := some1 (a8 (j - c) (by omega) (by omega))
      rw [e, hv]
      have := (m1 _ _ hv).2.2.2
      show v = _
      rw [this, show nx + (j - c) = nx - c + j by omega]
  · intro q v hq
    rw [a10] at hq
    split at hq
    · cases hq
    · rename_i h
      have := m1 q v hq
      exact ⟨by omega, this.2.1, by omega, this.2.2.2⟩
  · intro h1 h2 h3
    rcases Int.lt_or_le 0 t with q | q
    · exact q
    · exfalso
      have q : t = 0 := by omega
      subst q
      rcases a9 with h | h
      · omega
      · rw [a2] at h
        split at h
        · cases h
        · rename_i hh
          rw [show nx + 0 = nx by omega] at h hh
          exact hh ⟨by omega, h2, by omega, h⟩
theorem W_read {g h : D → D} (hg : ∀ d, g d = .b (loopV spPeek d.toL).isSome) (hh : ∀ d, h d = .ls (match loopV spPeek d.toL with | some (_, ys) => ys | none => [])) {T G : List UInt8} {n nx R f c : Int} {nn : Bool} {al : Int} {M A : List D} (hW : W T G nx R f c nn al M A) :
    ∃ (f' : Int) (bs : List UInt8), stepRead g h n nx R f c nn al M A = some (1, [.s bs, .i nx, .i R, .i f', .i (c - min (max n 0) c), .b nn, .i al, .ls M, .ls A]) ∧ W T (G ++ bs) nx R f' (c - min (max n 0) c) nn al M A := by
  obtain ⟨si, ndm, cnx, nxT, got, rdy, erl⟩ := hW
  have si' := si
  obtain ⟨R0, R1, f0, f1, c0, c1, nz, Al⟩ := si'
  obtain ⟨f', bs, a1, a2, a3, a4, a5⟩ := read_spec hg hh (n := n) (nx := nx) (M := M) si
  generalize ht : min (max n 0) c = t at *
  refine ⟨f', bs, a1, a2, ndm, by omega, nxT, ?_, ?_, ?_⟩
  · apply List.ext_getElem?
    intro i
    rw [got, List.getElem?_append, List.length_take, List.getElem?_take, List.getElem?_take]
    by_cases q : i < (nx - c).toNat
    · rw [if_pos (by omega), if_pos q, if_pos (by omega)]
    · rw [if_neg (by omega)]
      by_cases r : i < (nx - (c - t)).toNat
      · rw [if_pos r]
        have e : i - min (nx - c).toNat T.length = i - (nx - c).toNat := by omega
        rw [e]
        have e5 := a5 ((i - (nx - c).toNat : Nat) : Int) (by omega) (by omega)
        rw [rdy _ (by omega) (by omega), byt_at (by omega) (by omega), Int.toNat_natCast, show (nx - c + ((i - (nx - c).toNat : Nat) : Int)).toNat = i by omega] at e5
        rw [List.getD_eq_getElem?_getD, List.getD_eq_getElem?_getD, List.getElem?_eq_getElem (by omega), List.getElem?_eq_getElem (by omega)] at e5
        rw [List.getElem?_eq_getElem (by omega), List.getElem?_eq_getElem (by omega)]
        exact congrArg some e5
      · rw [if_neg r, List.getElem?_eq_none (by omega)]
  · intro j j0 j1
    rw [a4 j j0 j1, rdy (t + j) (by omega) (by omega), show nx - c + (t + j) = nx - (c - t) + j by omega]
  · intro q v hq
    have := erl q v hq
    exact ⟨this.1, this.2.1, by omega, this.2.2.2⟩
theorem W_len {T G : List UInt8} {nx R f c : Int} {nn : Bool} {al : Int} {M A : List D} (hW : W T G nx R f c nn al M A) : c + (M.length : Int) ≤ R := by
  obtain ⟨si, ndm, cnx, nxT, got, rdy, erl⟩ := hW
  obtain ⟨R0, R1, f0, f1, c0, c1, nz, Al⟩ := si
  have := M_len (a := nx) (b := nx + (R - c)) ndm (by omega) (fun q hq => by
    cases h : mfind q M with
    | none => exact absurd h hq
    | some v => have := erl q v h; omega)
  omega
/-- every piece as the parameters bring it -/
def PieceOk (d : D) : Prop := -9223372036854775808 ≤ (d.toL.getD 1 (.i 0)).toI ∧ (d.toL.getD 1 (.i 0)).toI ≤ 9223372036854775807
theorem absE {x : Int} (h0 : -9223372036854775808 ≤ x) (h1 : x ≤ 9223372036854775807) : ∃ y, (if decide (x < 0) = true then w64 (0 - w64 (x + 1)) else x) = y ∧ 0 ≤ y ∧ y ≤ 9223372036854775807 := by
  refine ⟨_, rfl, ?_⟩
  split
  · rename_i h
    have h : x < 0 := by simpa using h
    rw [w64_in (n := x + 1) (by omega) (by omega), w64_in (by omega) (by omega)]; omega
  · rename_i h
    have h : ¬ x < 0 := by simpa using h
    omega
theorem tmod_bd {x m : Int} (h0 : 0 ≤ x) (hm : 0 < m) : 0 ≤ Int.tmod x m ∧ Int.tmod x m < m := by
  rw [Int.tmod_eq_emod_of_nonneg h0]
  exact ⟨Int.emod_nonneg _ (by omega), Int.emod_lt_of_pos _ hm⟩
theorem w64_bd (x : Int) : -9223372036854775808 ≤ w64 x ∧ w64 x ≤ 9223372036854775807 := by
  rw [w64_eq]; split <;> omega
theorem W_G {T G : List UInt8} {nx R f c : Int} {nn : Bool} {al : Int} {M A : List D} (hW : W T G nx R f c nn al M A) : (G.length : Int) = nx - c ∧ (G.length : Int) ≤ (T.length : Int) ∧ G = (T.drop (Int.toNat 0)).take (Int.toNat (G.length : Int) - Int.toNat 0) := by
  obtain ⟨si, ndm, cnx, nxT, got, rdy, erl⟩ := hW
  obtain ⟨R0, R1, f0, f1, c0, c1, nz, Al⟩ := si
  have hl : (G.length : Int) = nx - c := by rw [got, List.length_take]; omega
  refine ⟨hl, by omega, ?_⟩
  rw [hl]
  exact got
theorem M_nil {M : List D} (h : ∀ q, mfind q M = none) : M = [] := by
  cases M with
  | nil => rfl
  | cons e r => have := h (dkey e); simp [mfind] at this
theorem W0 {T : List UInt8} {R : Int} (h0 : 0 ≤ R) (h1 : R ≤ 65535) : W T [] 0 R 0 0 false 0 [] [] :=
  ⟨⟨h0, h1, by omega, .inr rfl, by omega, h0, fun _ => rfl, fun h => by cases h⟩, List.nodup_nil, by omega, by omega, rfl, fun j h1 h2 => by omega, fun q v h => by cases h⟩
theorem pieceOk {d : D} (h : InE (.row [.bool, .int .i64, .str]) d) : PieceOk d := by
  simp only [InE] at h
  generalize hl : d.toL = l at h
  unfold PieceOk
  rw [hl]
  match l, h with
  | [], h => simp [InCs] at h
  | a :: [], h => simp [InCs] at h
  | a :: b :: r, h =>
    simp only [InCs, InC] at h
    exact h.2.1
/-! ### what a stream holds, whatever the order -/
/-- S: the places that some piece has brought. -/
structure O (S : Int → Prop) (nx : Int) (M : List D) : Prop where
  at_ : ∀ q, 0 ≤ q → ((q < nx ∨ mfind q M ≠ none) ↔ S q)
  stop : mfind nx M = none
theorem O_take {g3 g9 g5 g11 : D → D} (h3 : ∀ d, g3 d = .b (loopV spTakeA d.toL).isSome) (h5 : ∀ d, g5 d = .ls (match loopV spTakeA d.toL with | some (_, ys) => ys | none => []))
    (h9 : ∀ d, g9 d = .b (loopV spTakeB d.toL).isSome) (h11 : ∀ d, g11 d = .ls (match loopV spTakeB d.toL with | some (_, ys) => ys | none => [])) {T G : List UInt8} {p nx R f c : Int} {s : List UInt8} {nn : Bool} {al : Int} {M A : List D} {S : Int → Prop}
    (hW : W T G nx R f c nn al M A) (hO : O S nx M) (hT : (T.length : Int) ≤ 1099511627776) (hroom : (T.length : Int) ≤ nx + (R - c)) (p0 : 0 ≤ p) (hs : s = (T.drop p.toNat).take s.length) (ps : p + (s.length : Int) ≤ (T.length : Int)) :
    ∃ (t : Int) (nn' : Bool) (al' : Int) (M' A' : List D), stepTake g3 g9 g5 g11 p s nx R f c nn al M A = some (1, [.i t, .i (nx + t), .i R, .i f, .i (c + t), .b nn', .i al', .ls M', .ls A']) ∧
      W T G (nx + t) R f (c + t) nn' al' M' A' ∧ O (fun q => S q ∨ p ≤ q ∧ q < p + (s.length : Int)) (nx + t) M' := by
  obtain ⟨t2, nn2, al2, M2, A2, b1, b2, b3, b4⟩ := W_take h3 h5 h9 h11 hW hT p0 hs ps
  obtain ⟨si, ndm, cnx, nxT, got, rdy, erl⟩ := hW
  have si' := si
  obtain ⟨R0, R1, f0, f1, c0, c1, nz, Al⟩ := si'
  obtain ⟨t, nn', al', M1, M', A', a1, a2, a3, a4, a5, a6, a7, a8, a9, a10, a11, a12, a13⟩ := take_spec h3 h5 h9 h11 (p := p) (nx := nx) (s := s) si ndm (by omega) (by omega) p0 (by omega) (by omega)
  have e := b1.symm.trans a1
  simp only [Option.some.injEq, Prod.mk.injEq, List.cons.injEq, D.i.injEq, D.b.injEq, D.ls.injEq, true_and, and_true] at e
  obtain ⟨e1, -, -, e2, e3, e4, e5⟩ := e
  subst e1 e2 e3 e4 e5
  refine ⟨t2, nn2, al2, M2, A2, b1, b2, ?_, ?_⟩
  · intro q q0
    rw [← hO.at_ q q0, a10]
    by_cases h1 : q < nx
    · exact ⟨fun _ => .inl (.inl h1), fun _ => .inl (by omega)⟩
    · by_cases h2 : q < nx + t2
      · refine ⟨fun _ => ?_, fun _ => .inl h2⟩
        have h8 := a8 (q - nx) (by omega) (by omega)
        rw [show nx + (q - nx) = q by omega, a2] at h8
        split at h8
        · rename_i h; exact .inr ⟨by omega, h.2.1⟩
        · exact .inl (.inr h8)
      · rw [if_neg (by omega), a2]
        split
        · rename_i h
          exact ⟨fun _ => .inr ⟨by omega, h.2.1⟩, fun _ => .inr (by simp)⟩
        · rename_i h
          constructor
          · rintro (h' | h')
            · omega
            · exact .inl (.inr h')
          · rintro ((h' | h') | h')
            · omega
            · exact .inr h'
            · refine .inr (fun hn => h ⟨by omega, h'.2, by omega, hn⟩)
  · rcases a9 with h | h
    · cases hq : mfind (nx + t2) M2 with
      | none => rfl
      | some v => have := b2.erl _ v hq; omega
    · rw [a10, if_neg (by omega)]; exact h
theorem len_sub : ∀ (l l' : List Int), l.Nodup → (∀ x ∈ l, x ∈ l') → l.length ≤ l'.length
  | [], _, _, _ => by simp
  | a :: l, l', hn, hs => by
    have hn' := List.nodup_cons.1 hn
    have ha : a ∈ l' := hs a (by simp)
    have := len_sub l (l'.erase a) hn'.2 (fun x hx => (List.mem_erase_of_ne (fun e => hn'.1 (by rw [← e]; exact hx))).2 (hs x (by simp [hx])))
    have := List.length_erase_of_mem ha
    have := List.length_pos_of_mem ha
    simp only [List.length_cons]; omega
/-- two streams that hold the same -/
theorem O_eq {S : Int → Prop} {nx nx' : Int} {M M' : List D} (h : O S nx M) (h' : O S nx' M') (n0 : 0 ≤ nx) (n0' : 0 ≤ nx') (hM : nd M) (hM' : nd M') (hq : ∀ q, mfind q M ≠ none → nx ≤ q) (hq' : ∀ q, mfind q M' ≠ none → nx' ≤ q) : nx = nx' ∧ M.length = M'.length := by
  have key : nx = nx' := by
    rcases Int.lt_trichotomy nx nx' with g | g | g
    · exact absurd ((h.at_ nx n0).2 ((h'.at_ nx n0).1 (.inl g))) (by rintro (q | q); omega; exact q h.stop)
    · exact g
    · exact absurd ((h'.at_ nx' n0').2 ((h.at_ nx' n0').1 (.inl g))) (by rintro (q | q); omega; exact q h'.stop)
  subst key
  refine ⟨rfl, ?_⟩
  have one : ∀ {M M' : List D}, O S nx M → O S nx M' → nd M → nd M' → (∀ q, mfind q M ≠ none → nx ≤ q) → M.length ≤ M'.length := by
    intro M M' h h' hM hM' hq
    have : ∀ k ∈ M.map dkey, k ∈ M'.map dkey := by
      intro k hk
      have hk := mfind_mem hk
      have hn := hq k hk
      have := (h'.at_ k (by omega)).2 ((h.at_ k (by omega)).1 (.inr hk))
      rcases Classical.em (k ∈ M'.map dkey) with g | g
      · exact g
      · rcases this with g' | g'
        · omega
        · exact absurd (mfind_none.2 g) g'
    have := len_sub _ _ hM this
    rwa [List.length_map, List.length_map] at this
  exact Nat.le_antisymm (one h h' hM hM' hq) (one h' h hM' hM hq')
/-! ### the document's stream -/
def tb (L : List D) (k : Int) : Bool := (L.getD k.toNat (.i 0)).toB
theorem tb_set {L : List D} {p q : Int} {b : Bool} (hp : 0 ≤ p) (hq : 0 ≤ q) (hl : p < (L.length : Int)) : tb (L.set p.toNat (.b b)) q = if q = p then b else tb L q := by
  unfold tb
  rw [List.getD_eq_getElem?_getD, List.getD_eq_getElem?_getD]
  by_cases h : q = p
  · subst h
    rw [if_pos rfl, List.getElem?_set_self (by omega)]; rfl
  · rw [if_neg h, List.getElem?_set_ne (by omega)]
theorem rtakeA_loop {p nx room R base : Int} {s T : List UInt8} {b1 b2 : Bool} (hp : 0 ≤ p) (hp2 : p ≤ 1099511627776) (n0 : 0 ≤ nx) (n1 : nx ≤ 2305843009213693952) (hs : (s.length : Int) ≤ 2305843009213693952) (hR2 : R ≤ 65535) (hr : room ≤ R) :
    ∀ (k : Nat) (i : Int) (H B : List D), 0 ≤ i → (s.length : Int) - i = k → (H.length : Int) = R → (B.length : Int) = R →
    ∃ H' B', loopV spRTakeA [.i p, .s s, .i nx, .i room, .i i, .i R, .i base, .s T, .b b1, .i R, .b b2, .i R, .ls H, .ls B] = some (1, [.i R, .i base, .s T, .b b1, .i R, .b b2, .i R, .ls H', .ls B']) ∧ (H'.length : Int) = R ∧ (B'.length : Int) = R ∧
      (∀ q, 0 ≤ q → q < R → tb H' q = (tb H q || decide (q < room ∧ p + i ≤ nx + q ∧ nx + q < p + (s.length : Int)))) ∧
      (∀ q, 0 ≤ q → q < R → at' B' q = if tb H q = false ∧ q < room ∧ p + i ≤ nx + q ∧ nx + q < p + (s.length : Int) then byt s (nx + q - p) else at' B q)
  | 0, i, H, B, i0, hk, hH, hB => by
    refine ⟨H, B, loopV_out (j := 0) ?_, hH, hB, fun q q0 q1 => ?_, fun q q0 q1 => by rw [if_neg (by omega)]⟩
    · show stepRTakeA p s nx room i R base T b1 R b2 R H B = _
      unfold stepRTakeA
      extract_lets -merge x0 x1
      rw [if_neg (by show ¬ decide (i < (s.length : Int)) = true; simp; omega)]
    · rw [show decide (q < room ∧ p + i ≤ nx + q ∧ nx + q < p + (s.length : Int)) = false by simp; omega]; simp
  | k + 1, i, H, B, i0, hk, hH, hB => by
    have hi : i < (s.length : Int) := by omega
    generalize hz : p + i - nx = z
    have hst : ∃ H1 B1, spRTakeA [.i p, .s s, .i nx, .i room, .i i, .i R, .i base, .s T, .b b1, .i R, .b b2, .i R, .ls H, .ls B] = some (0, [.i p, .s s, .i nx, .i room, .i (i + 1), .i R, .i base, .s T, .b b1, .i R, .b b2, .i R, .ls H1, .ls B1]) ∧ (H1.length : Int) = R ∧ (B1.length : Int) = R ∧
        (∀ q, 0 ≤ q → q < R → tb H1 q = (tb H q || decide (q < room ∧ q = z))) ∧ (∀ q, 0 ≤ q → q < R → at' B1 q = if tb H q = false ∧ q < room ∧ q = z then byt s i else at' B q) := by
      show ∃ H1 B1, stepRTakeA p s nx room i R base T b1 R b2 R H B = _ ∧ _
      unfold stepRTakeA
      extract_lets -merge x0 x1 x2 x3 x4 x5 x6 x7 x8 x9 x10 x11 x12 x13 x14 x15 x16 x17 x18 x19 x20 x21 x22 x23 x24 x25 x26 x27 x28 x29 x30 x31 x32 x33 x34 x35
      have e1 : x1 = true := by show decide (i < (s.length : Int)) = true; simpa using hi
      have e3 : x3 = z := by show w64 (w64 (p + i) - nx) = z; rw [w64_in (n := p + i) (by omega) (by omega), w64_in (by omega) (by omega)]; exact hz
      have e30 : x30 = i + 1 := w64_in (by omega) (by omega)
      have e22 : x22 = true := by show (if decide (i ≥ 0) = true then x1 else false) = true; rw [if_pos (by simpa using i0), e1]
      by_cases c : 0 ≤ z ∧ z < room
      · have e4 : x4 = true := by show decide (x3 ≥ 0) = true; rw [e3]; simpa using c.1
        have e5 : x5 = true := by show decide (x3 < room) = true; rw [e3]; simpa using c.2
        have e6 : x6 = true := by show decide (x3 < R) = true; rw [e3]; simp; omega
        have e11 : x11 = true := by show decide (x3 < (H.length : Int)) = true; rw [e3, hH]; simp; omega
        have e7 : x7 = true := by show (if x4 = true then x6 else false) = true; rw [if_pos e4, e6]
        have e24 : x24 = true := e6
        have e28 : x28 = true := by show decide (x3 < (B.length : Int)) = true; rw [e3, hB]; simp; omega
        have e9 : x9 = true := by show (if x4 = true then (if x5 = true then x7 else true) else true) = true; rw [if_pos e4, if_pos e5, e7]
        have e13 : x13 = true := by show (if x4 = true then (if x5 = true then x11 else true) else true) = true; rw [if_pos e4, if_pos e5, e11]
        have e18 : x18 = !tb H z := by
          show (if x4 = true then (if x5 = true then !(D.toB (H.getD (Int.toNat x3) (D.i 0))) else false) else false) = _
          rw [if_pos e4, if_pos e5, e3]; rfl
        have e19 : x19 = true := by show (if x18 = true then x7 else true) = true; rw [e7]; split <;> rfl
        have e20 : x20 = true := by show (if x18 = true then x11 else true) = true; rw [e11]; split <;> rfl
        have e23 : x23 = true := by show (if x18 = true then x22 else true) = true; rw [e22]; split <;> rfl
        have e26 : x26 = true := by show (if x18 = true then (if x4 = true then x24 else false) else true) = true; rw [if_pos e4, e24]; split <;> rfl
        have e29 : x29 = true := by show (if x18 = true then x28 else true) = true; rw [e28]; split <;> rfl
        rw [if_pos e1, if_pos e9, if_pos e13, if_pos e19, if_pos e20, if_pos e23, if_pos e26, if_pos e29, e30]
        refine ⟨x32, x35, rfl, ?_, ?_, ?_, ?_⟩
        · show ((if x18 = true then H.set (Int.toNat x3) (D.b true) else H).length : Int) = R
          split
          · rw [List.length_set]; exact hH
          · exact hH
        · show ((if x18 = true then B.set (Int.toNat x3) (D.i x33) else B).length : Int) = R
          split
          · rw [List.length_set]; exact hB
          · exact hB
        · intro q q0 q1
          show tb (if x18 = true then H.set (Int.toNat x3) (D.b true) else H) q = _
          by_cases hz2 : tb H z = true
          · rw [if_neg (by rw [e18, hz2]; simp)]
            by_cases hq : q = z
            · subst hq; rw [hz2]; simp
            · rw [show decide (q < room ∧ q = z) = false by simp; omega]; simp
          · have hz2 : tb H z = false := by simpa using hz2
            rw [if_pos (by rw [e18, hz2]; rfl), e3, tb_set c.1 q0 (by omega)]
            by_cases hq : q = z
            · subst hq; rw [if_pos rfl, show decide (q < room ∧ q = q) = true by simp; omega]; simp
            · rw [if_neg hq, show decide (q < room ∧ q = z) = false by simp; omega]; simp
        · intro q q0 q1
          show at' (if x18 = true then B.set (Int.toNat x3) (D.i x33) else B) q = _
          by_cases hz2 : tb H z = true
          · rw [if_neg (by rw [e18, hz2]; simp)]
            rw [if_neg]
            rintro ⟨h1, h2, h3⟩
            subst h3; rw [hz2] at h1; cases h1
          · have hz2 : tb H z = false := by simpa using hz2
            rw [if_pos (by rw [e18, hz2]; rfl), e3, at_set c.1 q0 (by omega)]
            by_cases hq : q = z
            · subst hq; rw [if_pos rfl, if_pos ⟨hz2, c.2, rfl⟩]; rfl
            · rw [if_neg hq, if_neg (by rintro ⟨h1, h2, h3⟩; exact hq h3)]
      · have e45 : x4 = false ∨ (x4 = true ∧ x5 = false) := by
          by_cases q : 0 ≤ z
          · right
            exact ⟨by show decide (x3 ≥ 0) = true; rw [e3]; simpa using q, by show decide (x3 < room) = false; rw [e3]; simp; omega⟩
          · left; show decide (x3 ≥ 0) = false; rw [e3]; simpa using q
        have e9 : x9 = true := by
          show (if x4 = true then (if x5 = true then x7 else true) else true) = true
          rcases e45 with h | ⟨h, h'⟩
          · rw [h]; rfl
          · rw [h, h']; rfl
        have e13 : x13 = true := by
          show (if x4 = true then (if x5 = true then x11 else true) else true) = true
          rcases e45 with h | ⟨h, h'⟩
          · rw [h]; rfl
          · rw [h, h']; rfl
        have e18 : x18 = false := by
          show (if x4 = true then (if x5 = true then x16 else false) else false) = false
          rcases e45 with h | ⟨h, h'⟩
          · rw [h]; rfl
          · rw [h, h']; rfl
        have n18 : ¬ x18 = true := by rw [e18]; decide
        rw [if_pos e1, if_pos e9, if_pos e13, if_pos (if_neg n18), if_pos (if_neg n18), if_pos (if_neg n18), if_pos (if_neg n18), if_pos (if_neg n18), e30]
        refine ⟨H, B, ?_, hH, hB, ?_, ?_⟩
        · rw [show x32 = H from if_neg n18, show x35 = B from if_neg n18]
        · intro q q0 q1
          rw [show decide (q < room ∧ q = z) = false by simp; omega]; simp
        · intro q q0 q1
          rw [if_neg (by rintro ⟨h1, h2, h3⟩; omega)]
    obtain ⟨H1, B1, a1, a2, a3, a4, a5⟩ := hst
    obtain ⟨H', B', c1, c2, c3, c4, c5⟩ := rtakeA_loop (p := p) (nx := nx) (room := room) (R := R) (base := base) (s := s) (T := T) (b1 := b1) (b2 := b2) hp hp2 n0 n1 hs hR2 hr k (i + 1) H1 B1 (by omega) (by omega) a2 a3
    refine ⟨H', B', (loopV_again a1).trans c1, c2, c3, ?_, ?_⟩
    · intro q q0 q1
      rw [c4 q q0 q1, a4 q q0 q1]
      cases tb H q
      · simp only [Bool.false_or]
        rw [← Bool.decide_or]
        congr 1
        apply propext
        constructor
        · rintro (h | h) <;> omega
        · intro h; omega
      · simp
    · intro q q0 q1
      rw [c5 q q0 q1, a4 q q0 q1, a5 q q0 q1]
      by_cases hq : tb H q = false ∧ q < room ∧ p + i ≤ nx + q ∧ nx + q < p + (s.length : Int)
      · rw [if_pos hq]
        by_cases hqz : q = z
        · rw [if_neg (by rintro ⟨h1, h2, h3, h4⟩; omega), if_pos ⟨hq.1, hq.2.1, hqz⟩]
          congr 1; omega
        · rw [if_pos ⟨by rw [hq.1]; simp; omega, hq.2.1, by omega, hq.2.2.2⟩]
      · rw [if_neg hq, if_neg, if_neg (by rintro ⟨h1, h2, h3⟩; exact hq ⟨h1, h2, by omega, by omega⟩)]
        rintro ⟨h1, h2, h3, h4⟩
        refine hq ⟨?_, h2, by omega, h4⟩
        cases ht : tb H q with
        | false => rfl
        | true => rw [ht] at h1; simp at h1
theorem rtakeB_loop {R base : Int} {T : List UInt8} {b1 b2 : Bool} {H B : List D} (hR2 : R ≤ 65535) (hH : (H.length : Int) = R) :
    ∀ (k : Nat) (n : Int), 0 ≤ n → R - n = k → (∀ j, 0 ≤ j → j < n → tb H j = true) →
    ∃ t, loopV spRTakeB [.i n, .i R, .i base, .s T, .b b1, .i R, .b b2, .i R, .ls H, .ls B] = some (1, [.i t, .i R, .i base, .s T, .b b1, .i R, .b b2, .i R, .ls H, .ls B]) ∧ 0 ≤ t ∧ t ≤ R ∧ (∀ j, 0 ≤ j → j < t → tb H j = true) ∧ (t = R ∨ tb H t = false)
  | 0, n, n0, hk, hj => by
    refine ⟨n, loopV_out (j := 0) ?_, n0, by omega, hj, .inl (by omega)⟩
    show stepRTakeB n R base T b1 R b2 R H B = _
    unfold stepRTakeB
    extract_lets -merge x0 x1 x2 x3 x4 x5 x6 x7 x8 x9 x10 x11
    have e0 : ¬ x0 = true := by show ¬ decide (n < R) = true; simp; omega
    rw [if_pos (if_neg e0), if_pos (if_neg e0), if_neg (by rw [show x10 = false from if_neg e0]; decide)]
  | k + 1, n, n0, hk, hj => by
    have base' : spRTakeB [.i n, .i R, .i base, .s T, .b b1, .i R, .b b2, .i R, .ls H, .ls B] = if tb H n = true then some (0, [.i (n + 1), .i R, .i base, .s T, .b b1, .i R, .b b2, .i R, .ls H, .ls B]) else some (1, [.i n, .i R, .i base, .s T, .b b1, .i R, .b b2, .i R, .ls H, .ls B]) := by
      show stepRTakeB n R base T b1 R b2 R H B = _
      unfold stepRTakeB
      extract_lets -merge x0 x1 x2 x3 x4 x5 x6 x7 x8 x9 x10 x11
      have e0 : x0 = true := by show decide (n < R) = true; simp; omega
      have e3 : x3 = true := by show (if decide (n ≥ 0) = true then x2 else false) = true; rw [if_pos (by simpa using n0)]; exact e0
      have e6 : x6 = true := by show decide (n < (H.length : Int)) = true; rw [hH]; simp; omega
      have e11 : x11 = n + 1 := w64_in (by omega) (by omega)
      have e10 : x10 = tb H n := (if_pos e0).trans rfl
      rw [if_pos ((if_pos e0).trans e3), if_pos ((if_pos e0).trans e6), e10, e11]
    by_cases c : tb H n = true
    · rw [if_pos c] at base'
      obtain ⟨t, h1, h2, h3, h4, h5⟩ := rtakeB_loop (R := R) (base := base) (T := T) (b1 := b1) (b2 := b2) (H := H) (B := B) hR2 hH k (n + 1) (by omega) (by omega) (fun j j0 j1 => by
        by_cases q : j = n
        · subst q; exact c
        · exact hj j j0 (by omega))
      exact ⟨t, (loopV_again base').trans h1, h2, h3, h4, h5⟩
    · rw [if_neg c] at base'
      exact ⟨n, loopV_out (j := 0) base', n0, by omega, hj, .inr (by simpa using c)⟩
theorem rtakeC_loop {R n base : Int} {T : List UInt8} {b1 b2 : Bool} {H B : List D} (hR0 : 0 ≤ R) (hR2 : R ≤ 65535) (hn : 0 ≤ n) (hH : (H.length : Int) = R) (hB : (B.length : Int) = R) :
    ∀ (k : Nat) (i : Int) (H2 B2 : List D), n ≤ i → i ≤ R → R - i = k → (H2.length : Int) = R → (B2.length : Int) = R →
    ∃ H' B', loopV spRTakeC [.i n, .b true, .i R, .b true, .i R, .i i, .i R, .i base, .s T, .b b1, .i R, .b b2, .i R, .ls H2, .ls B2, .ls H, .ls B] = some (1, [.i n, .b true, .i R, .b true, .i R, .i R, .i base, .s T, .b b1, .i R, .b b2, .i R, .ls H', .ls B', .ls H, .ls B]) ∧ (H'.length : Int) = R ∧ (B'.length : Int) = R ∧
      (∀ q, 0 ≤ q → q < R → tb H' q = if i - n ≤ q ∧ q < R - n then tb H (q + n) else tb H2 q) ∧ (∀ q, 0 ≤ q → q < R → at' B' q = if i - n ≤ q ∧ q < R - n then at' B (q + n) else at' B2 q)
  | 0, i, H2, B2, i0, i1, hk, hH2, hB2 => by
    refine ⟨H2, B2, loopV_out (j := 0) ?_, hH2, hB2, fun q q0 q1 => by rw [if_neg (by omega)], fun q q0 q1 => by rw [if_neg (by omega)]⟩
    show stepRTakeC n true R true R i R base T b1 R b2 R H2 B2 H B = _
    unfold stepRTakeC
    extract_lets -merge x0
    rw [if_neg (by show ¬ decide (i < R) = true; simp; omega)]
  | k + 1, i, H2, B2, i0, i1, hk, hH2, hB2 => by
    have hi : i < R := by omega
    have hs : spRTakeC [.i n, .b true, .i R, .b true, .i R, .i i, .i R, .i base, .s T, .b b1, .i R, .b b2, .i R, .ls H2, .ls B2, .ls H, .ls B] = some (0, [.i n, .b true, .i R, .b true, .i R, .i (i + 1), .i R, .i base, .s T, .b b1, .i R, .b b2, .i R, .ls (H2.set (i - n).toNat (.b (tb H i))), .ls (B2.set (i - n).toNat (.i (at' B i))), .ls H, .ls B]) := by
      show stepRTakeC n true R true R i R base T b1 R b2 R H2 B2 H B = _
      unfold stepRTakeC
      extract_lets -merge x0 x1 x2 x3 x4 x5 x6 x7 x8 x9 x10 x11 x12 x13 x14 x15 x16 x17 x18 x19 x20 x21 x22 x23 x24 x25 x26
      have e0 : x0 = true := by show decide (i < R) = true; simpa using hi
      have e1 : x1 = true := by show decide (i ≥ 0) = true; simp; omega
      have e6 : x6 = i - n := w64_in (by omega) (by omega)
      have e7 : x7 = true := by show decide (x6 ≥ 0) = true; rw [e6]; simp; omega
      have e8 : x8 = true := by show decide (x6 < R) = true; rw [e6]; simp; omega
      have e20 : x20 = i + 1 := w64_in (by omega) (by omega)
      have e5 : x5 = true := by show decide (i < (H.length : Int)) = true; rw [hH]; simpa using hi
      have e15 : x15 = true := by show decide (i < (B.length : Int)) = true; rw [hB]; simpa using hi
      have e11 : x11 = true := by show decide (x6 < (H2.length : Int)) = true; rw [e6, hH2]; simp; omega
      have e19 : x19 = true := by show decide (x6 < (B2.length : Int)) = true; rw [e6, hB2]; simp; omega
      have e23 : x23 = H2.set (i - n).toNat (.b (tb H i)) := by show H2.set (Int.toNat x6) _ = _; rw [e6]; rfl
      have e26 : x26 = B2.set (i - n).toNat (.i (at' B i)) := by show B2.set (Int.toNat x6) _ = _; rw [e6]; rfl
      rw [if_pos e0, if_pos ((if_pos e1).trans e0), if_pos e5, if_pos ((if_pos e7).trans e8), if_pos e11, if_pos ((if_pos e1).trans e0), if_pos e15, if_pos ((if_pos e7).trans e8), if_pos e19, e20, e23, e26]
    obtain ⟨H', B', h1, h2, h3, h4, h5⟩ := rtakeC_loop (n := n) (base := base) (T := T) (b1 := b1) (b2 := b2) (H := H) (B := B) hR0 hR2 hn hH hB k (i + 1) (H2.set (i - n).toNat (.b (tb H i))) (B2.set (i - n).toNat (.i (at' B i))) (by omega) (by omega) (by omega) (by simpa using hH2) (by simpa using hB2)
    refine ⟨H', B', (loopV_again hs).trans h1, h2, h3, ?_, ?_⟩
    · intro q q0 q1
      rw [h4 q q0 q1, tb_set (by omega) q0 (by omega)]
      by_cases c : q = i - n
      · subst c
        rw [if_neg (by omega), if_pos rfl, if_pos (by omega), show i - n + n = i by omega]
      · rw [if_neg c]
        by_cases c2 : i + 1 - n ≤ q ∧ q < R - n
        · rw [if_pos c2, if_pos (by omega)]
        · rw [if_neg c2, if_neg (by omega)]
    · intro q q0 q1
      rw [h5 q q0 q1, at_set (by omega) q0 (by omega)]
      by_cases c : q = i - n
      · subst c
        rw [if_neg (by omega), if_pos rfl, if_pos (by omega), show i - n + n = i by omega]
      · rw [if_neg c]
        by_cases c2 : i + 1 - n ≤ q ∧ q < R - n
        · rw [if_pos c2, if_pos (by omega)]
        · rw [if_neg c2, if_neg (by omega)]
/-- how many of the first are true -/
def cnt (H : List D) : Nat → Int
  | 0 => 0
  | n + 1 => cnt H n + if tb H (n : Int) = true then 1 else 0
theorem cnt_bd (H : List D) : ∀ n : Nat, 0 ≤ cnt H n ∧ cnt H n ≤ n
  | 0 => by simp [cnt]
  | n + 1 => by have := cnt_bd H n; unfold cnt; split <;> omega
theorem rheld_loop {R base : Int} {T : List UInt8} {b1 b2 : Bool} {H B : List D} (hR2 : R ≤ 65535) (hH : (H.length : Int) = R) :
    ∀ (k : Nat) (i : Nat), R - i = k →
    loopV spRHeld [.i (cnt H i), .i i, .i R, .i base, .s T, .b b1, .i R, .b b2, .i R, .ls H, .ls B] = some (1, [.i (cnt H R.toNat), .i R, .i base, .s T, .b b1, .i R, .b b2, .i R, .ls H, .ls B])
  | 0, i, hk => by
    refine loopV_out (j := 0) ?_
    show stepRHeld (cnt H i) i R base T b1 R b2 R H B = _
    unfold stepRHeld
    extract_lets -merge x0
    rw [if_neg (by show ¬ decide ((i : Int) < R) = true; simp; omega), show R.toNat = i by omega]
  | k + 1, i, hk => by
    refine (loopV_again ?_).trans (rheld_loop hR2 hH k (i + 1) (by omega))
    show stepRHeld (cnt H i) i R base T b1 R b2 R H B = _
    unfold stepRHeld
    extract_lets -merge x0 x1 x2 x3 x4 x5 x6 x7 x8 x9
    have cb := cnt_bd H i
    have e0 : x0 = true := by show decide ((i : Int) < R) = true; simp; omega
    have e1 : x1 = true := by show decide ((i : Int) ≥ 0) = true; simp
    have e4 : x4 = true := by show decide ((i : Int) < (H.length : Int)) = true; rw [hH]; simp; omega
    have e9 : x9 = ((i + 1 : Nat) : Int) := by show w64 ((i : Int) + 1) = _; rw [w64_in (by omega) (by omega)]; omega
    have e8 : x8 = cnt H (i + 1) := by
      show (if x6 = true then w64 (cnt H i + 1) else cnt H i) = cnt H i + if tb H (i : Int) = true then 1 else 0
      rw [w64_in (by omega) (by omega)]
      show (if tb H (i : Int) = true then cnt H i + 1 else cnt H i) = _
      split <;> omega
    rw [if_pos e0, if_pos ((if_pos e1).trans e0), if_pos e4, e8, e9]
/-! ### both streams hold the same -/
structure RS (R nx f c : Int) (nn : Bool) (al : Int) (M A : List D) (base : Int) (T : List UInt8) (H B : List D) : Prop where
  si : SI R f c nn al A
  ndm : nd M
  hH : (H.length : Int) = R
  hB : (B.length : Int) = R
  hT : (T.length : Int) = c
  b0 : 0 ≤ base
  nxE : nx = base + c
  nxB : nx ≤ 281474976710656
  txt : ∀ j, 0 ≤ j → j < c → at' A (rd f j R) = byt T j
  erl : ∀ k, 0 ≤ k → k < R → tb H k = (mfind (nx + k) M).isSome ∧ ∀ v, mfind (nx + k) M = some v → at' B k = v
  rng : ∀ q v, mfind q M = some v → nx ≤ q ∧ q < nx + (R - c) ∧ q < 281474976710656 ∧ 0 ≤ v ∧ v < 256
theorem cnt_len {H : List D} : ∀ (n : Nat) (l : List Int), l.Nodup → (∀ x, x ∈ l ↔ 0 ≤ x ∧ x < n ∧ tb H x = true) → cnt H n = l.length
  | 0, l, _, h => by
    cases l with
    | nil => rfl
    | cons a l => have := (h a).1 (by simp); omega
  | n + 1, l, hn, h => by
    by_cases c : tb H (n : Int) = true
    · have hm : (n : Int) ∈ l := (h _).2 ⟨by omega, by omega, c⟩
      have ih := cnt_len n (l.erase (n : Int)) (hn.erase _) (fun x => by
        constructor
        · intro hx
          have hx' := (h x).1 (List.mem_of_mem_erase hx)
          have hne : x ≠ (n : Int) := fun e => by subst e; exact (List.Nodup.not_mem_erase hn) hx
          exact ⟨hx'.1, by omega, hx'.2.2⟩
        · rintro ⟨h1, h2, h3⟩
          exact (List.mem_erase_of_ne (by omega)).2 ((h x).2 ⟨h1, by omega, h3⟩))
      have := List.length_erase_of_mem hm
      have := List.length_pos_of_mem hm
      unfold cnt; rw [if_pos c, ih]; omega
    · have ih := cnt_len n l hn (fun x => by
        rw [h x]
        constructor
        · rintro ⟨h1, h2, h3⟩
          refine ⟨h1, ?_, h3⟩
          by_cases e : x = (n : Int)
          · subst e; exact absurd h3 c
          · omega
        · rintro ⟨h1, h2, h3⟩; exact ⟨h1, by omega, h3⟩)
      unfold cnt; rw [if_neg c, ih]; omega
theorem RS.held {R nx f c : Int} {nn : Bool} {al : Int} {M A : List D} {base : Int} {T : List UInt8} {H B : List D} (h : RS R nx f c nn al M A base T H B) : cnt H R.toNat = (M.length : Int) := by
  have hR0 := h.si.R0
  have hc0 := h.si.c0
  have e := cnt_len (H := H) R.toNat ((M.map dkey).map (· - nx)) (List.Pairwise.map _ (fun a b hab e => hab (by omega)) h.ndm) (fun x => by
    constructor
    · intro hx
      rw [List.mem_map] at hx
      obtain ⟨y, hy, rfl⟩ := hx
      have hm := mfind_mem hy
      cases hv : mfind y M with
      | none => exact absurd hv hm
      | some v =>
        have hr := h.rng y v hv
        have := (h.erl (y - nx) (by omega) (by omega)).1
        rw [show nx + (y - nx) = y by omega, hv] at this
        exact ⟨by omega, by omega, this⟩
    · rintro ⟨h1, h2, h3⟩
      have := (h.erl x h1 (by omega)).1
      rw [h3] at this
      rw [List.mem_map]
      refine ⟨nx + x, ?_, by omega⟩
      rcases Classical.em (nx + x ∈ M.map dkey) with g | g
      · exact g
      · rw [mfind_none.2 g] at this; cases this)
  rw [e, List.length_map, List.length_map]
theorem U12 (d : D) : F10 12 d = .b (loopV spRTakeA d.toL).isSome := by kernel_rfl
theorem U14 (d : D) : F10 14 d = .ls (match loopV spRTakeA d.toL with | some (_, ys) => ys | none => []) := by kernel_rfl
theorem U15 (d : D) : F10 15 d = .b (loopV spRTakeB d.toL).isSome := by kernel_rfl
theorem U17 (d : D) : F10 17 d = .ls (match loopV spRTakeB d.toL with | some (_, ys) => ys | none => []) := by kernel_rfl
theorem U18 (d : D) : F10 18 d = .b (loopV spRTakeC d.toL).isSome := by kernel_rfl
theorem U20 (d : D) : F10 20 d = .ls (match loopV spRTakeC d.toL with | some (_, ys) => ys | none => []) := by kernel_rfl
theorem T3 (d : D) : F9 3 d = .b (loopV spTakeA d.toL).isSome := by kernel_rfl
theorem T5 (d : D) : F9 5 d = .ls (match loopV spTakeA d.toL with | some (_, ys) => ys | none => []) := by kernel_rfl
theorem T9 (d : D) : F9 9 d = .b (loopV spTakeB d.toL).isSome := by kernel_rfl
theorem T11 (d : D) : F9 11 d = .ls (match loopV spTakeB d.toL with | some (_, ys) => ys | none => []) := by kernel_rfl
theorem R24 (d : D) : F11 24 d = .b (loopV spPeek d.toL).isSome := by kernel_rfl
theorem R26 (d : D) : F11 26 d = .ls (match loopV spPeek d.toL with | some (_, ys) => ys | none => []) := by kernel_rfl
theorem rtake_far {p N base : Int} {s T : List UInt8} {b1 b2 : Bool} {l1 l2 : Int} {H B : List D} (h : p < 0 ∨ p > 1099511627776) :
    spRTake [.i p, .s s, .i N, .i base, .s T, .b b1, .i l1, .b b2, .i l2, .ls H, .ls B] = some (1, [.i 0, .i N, .i base, .s T, .b b1, .i l1, .b b2, .i l2, .ls H, .ls B]) := by
  show stepRTake (F10 12) (F10 15) (F10 14) (F10 17) (F10 18) (F10 20) p s N base T b1 l1 b2 l2 H B = _
  unfold stepRTake
  extract_lets -merge x0 x1 x2
  have e2 : x2 = true := by
    show (if decide (p < 0) = true then true else decide (p > 1099511627776)) = true
    by_cases q : p < 0
    · rw [if_pos (by simpa using q)]
    · rw [if_neg (by simpa using q)]; simp; omega
  rw [if_pos (if_pos e2), if_pos (if_pos e2), if_pos (if_pos e2), if_pos (if_pos e2), if_pos (if_pos e2), if_pos (if_pos e2), if_pos (if_pos e2), if_pos (if_pos e2), if_pos e2]
/-- the document's Take -/
theorem rtake_spec {p nx R base : Int} {s T : List UInt8} {b1 b2 : Bool} {H B : List D} (hp : 0 ≤ p) (hp2 : p ≤ 1099511627776) (hb : 0 ≤ base) (hnx : nx = base + (T.length : Int)) (n1 : nx ≤ 281474976710656) (hs : (s.length : Int) ≤ 140737488351232) (hR0 : 0 ≤ R) (hR2 : R ≤ 65535) (hT : (T.length : Int) ≤ R) (hH : (H.length : Int) = R) (hB : (B.length : Int) = R) :
    ∃ (t : Int) (H1 B1 H' B' : List D), spRTake [.i p, .s s, .i R, .i base, .s T, .b b1, .i R, .b b2, .i R, .ls H, .ls B] = some (1, [.i t, .i R, .i base, .s (T ++ strOfL (B1.take t.toNat)), .b true, .i R, .b true, .i R, .ls H', .ls B']) ∧
      (∀ q, 0 ≤ q → q < R → tb H1 q = (tb H q || decide (q < R - (T.length : Int) ∧ p ≤ nx + q ∧ nx + q < p + (s.length : Int)))) ∧
      (∀ q, 0 ≤ q → q < R → at' B1 q = if tb H q = false ∧ q < R - (T.length : Int) ∧ p ≤ nx + q ∧ nx + q < p + (s.length : Int) then byt s (nx + q - p) else at' B q) ∧
      (B1.length : Int) = R ∧ 0 ≤ t ∧ t ≤ R ∧ (∀ j, 0 ≤ j → j < t → tb H1 j = true) ∧ (t = R ∨ tb H1 t = false) ∧ (H'.length : Int) = R ∧ (B'.length : Int) = R ∧
      (∀ q, 0 ≤ q → q < R → tb H' q = if q < R - t then tb H1 (q + t) else false) ∧ (∀ q, 0 ≤ q → q < R → q < R - t → at' B' q = at' B1 (q + t)) := by
  obtain ⟨H1, B1, a1, a2, a3, a4, a5⟩ := rtakeA_loop (p := p) (nx := nx) (room := R - (T.length : Int)) (R := R) (base := base) (s := s) (T := T) (b1 := b1) (b2 := b2) hp hp2 (by omega) (by omega) (by omega) hR2 (by omega) s.length 0 H B (by omega) (by omega) hH hB
  obtain ⟨t, c1, c2, c3, c4, c5⟩ := rtakeB_loop (R := R) (base := base) (T := T) (b1 := b1) (b2 := b2) (H := H1) (B := B1) hR2 a2 R.toNat 0 (by omega) (by omega) (fun j j0 j1 => by omega)
  obtain ⟨H', B', d1, d2, d3, d4, d5⟩ := rtakeC_loop (R := R) (n := t) (base := base) (T := T ++ strOfL (B1.take t.toNat)) (b1 := b1) (b2 := b2) (H := H1) (B := B1) hR0 hR2 c2 a2 a3 (R - t).toNat t (List.replicate R.toNat (.b false)) (List.replicate R.toNat (.i 0)) (by omega) (by omega) (by omega) (by rw [List.length_replicate]; omega) (by rw [List.length_replicate]; omega)
  refine ⟨t, H1, B1, H', B', ?_, fun q q0 q1 => by have := a4 q q0 q1; rw [show p + 0 = p by omega] at this; exact this, fun q q0 q1 => by have := a5 q q0 q1; rw [show p + 0 = p by omega] at this; exact this, a3, c2, c3, c4, c5, d2, d3, ?_, ?_⟩
  · show stepRTake (F10 12) (F10 15) (F10 14) (F10 17) (F10 18) (F10 20) p s R base T b1 R b2 R H B = _
    unfold stepRTake
    extract_lets -merge x0 x1 x2 x3 x4 x5 x6 x7 x8 x9 x10 x11 x12 x13 x14 x15 x16 x17 x18 x19 x20 x21 x22 x23 x24 x25 x26 x27 x28 x29 x30 x31 x32 x33 x34 x35 x36 x37 x38 x39 x40 x41 x42 x43 x44 x45 x46 x47 x48 x49 x50 x51 x52 x53 x54 x55 x56 x57 x58 x59 x60 x61 x62 x63 x64 x65 x66 x67 x68 x69 x70 x71 x72 x73 x74 x75 x76 x77 x78 x79 x80 x81 x82 x83 x84 x85 x86 x87 x88 x89
    have e2 : ¬ x2 = true := by
      show ¬ (if decide (p < 0) = true then true else decide (p > 1099511627776)) = true
      rw [if_neg (by simpa using hp)]; simpa using hp2
    have e4 : x4 = nx := by show w64 (base + (T.length : Int)) = nx; rw [w64_in (by omega) (by omega)]; omega
    have e5 : x5 = R - (T.length : Int) := w64_in (n := R - (T.length : Int)) (by omega) (by omega)
    have a1 : loopV spRTakeA x19 = some (1, [.i R, .i base, .s T, .b b1, .i R, .b b2, .i R, .ls H1, .ls B1]) := by
      show loopV spRTakeA [.i p, .s s, .i x4, .i x5, .i 0, .i R, .i base, .s T, .b b1, .i R, .b b2, .i R, .ls H, .ls B] = _
      rw [e4, e5]; exact a1
    have e21 : x21 = true := by show (F10 12 (D.ls x19)).toB = true; rw [U12, show (D.ls x19).toL = x19 from rfl, a1]; rfl
    have e24 : x24 = [.i R, .i base, .s T, .b b1, .i R, .b b2, .i R, .ls H1, .ls B1] := by show (F10 14 (D.ls x19)).toL = _; rw [U14, show (D.ls x19).toL = x19 from rfl, a1]; rfl
    have e26 : x26 = H1 := by show (x24.getD 7 (.i 0)).toL = _; rw [e24]; rfl
    have e28 : x28 = B1 := by show (x24.getD 8 (.i 0)).toL = _; rw [e24]; rfl
    have c1 : loopV spRTakeB x38 = some (1, [.i t, .i R, .i base, .s T, .b b1, .i R, .b b2, .i R, .ls H1, .ls B1]) := by
      show loopV spRTakeB [.i 0, .i R, .i base, .s T, .b b1, .i R, .b b2, .i R, .ls x26, .ls x28] = _
      rw [e26, e28]; exact c1
    have e40 : x40 = true := by show (F10 15 (D.ls x38)).toB = true; rw [U15, show (D.ls x38).toL = x38 from rfl, c1]; rfl
    have e49 : x49 = t := by show (((F10 17 (D.ls x38)).toL).getD 0 (.i 0)).toI = _; rw [U17, show (D.ls x38).toL = x38 from rfl, c1]; rfl
    have e44 : D.toI x44 = t := e49
    have e54 : x54 = strOfL (B1.take t.toNat) := by
      show strOfL ((x28.drop (Int.toNat 0)).take (Int.toNat x49 - Int.toNat 0)) = _
      rw [e28, e49]; simp
    have l54 : x55 = t := by show (x54.length : Int) = t; rw [e54]; unfold strOfL; rw [List.length_map, List.length_take]; omega
    have e63 : x63 = T ++ strOfL (B1.take t.toNat) := by show T ++ x54 = _; rw [e54]
    have d1 : loopV spRTakeC x80 = some (1, [.i t, .b true, .i R, .b true, .i R, .i R, .i base, .s (T ++ strOfL (B1.take t.toNat)), .b b1, .i R, .b b2, .i R, .ls H', .ls B', .ls H1, .ls B1]) := by
      show loopV spRTakeC [.i x49, .b true, .i R, .b true, .i R, .i x49, .i R, .i base, .s x63, .b b1, .i R, .b b2, .i R, .ls x64, .ls x65, .ls x26, .ls x28] = _
      rw [e49, e63, e26, e28]; exact d1
    have e82 : x82 = true := by show (F10 18 (D.ls x80)).toB = true; rw [U18, show (D.ls x80).toL = x80 from rfl, d1]; rfl
    have e87 : x87 = H' := by show (((F10 20 (D.ls x80)).toL).getD 12 (.i 0)).toL = _; rw [U20, show (D.ls x80).toL = x80 from rfl, d1]; rfl
    have e89 : x89 = B' := by show (((F10 20 (D.ls x80)).toL).getD 13 (.i 0)).toL = _; rw [U20, show (D.ls x80).toL = x80 from rfl, d1]; rfl
    have e47 : x47 = true := by show (if decide (D.toI x44 ≥ 0) = true then decide (D.toI x44 ≤ R) else false) = true; rw [e44, if_pos (by simpa using c2)]; simpa using c3
    have e51 : x51 = true := by show decide (x49 ≤ (x28.length : Int)) = true; rw [e49, e28, a3]; simpa using c3
    have e57 : x57 = true := by show decide ((T.length : Int) + x55 ≤ 9223372036854775807) = true; rw [l54]; simp; omega
    have e61 : x61 = true := by show (if decide (R ≥ 0) = true then decide (R ≤ 1099511627776) else false) = true; rw [if_pos (by simpa using hR0)]; simp; omega
    rw [if_pos ((if_neg e2).trans e21), if_pos ((if_neg e2).trans e40), if_pos ((if_neg e2).trans e47), if_pos ((if_neg e2).trans e51), if_pos ((if_neg e2).trans e57), if_pos ((if_neg e2).trans e61), if_pos ((if_neg e2).trans e61), if_pos ((if_neg e2).trans e82), if_neg e2, e49, e63, e87, e89]
  · intro q q0 q1
    rw [d4 q q0 q1]
    by_cases c : q < R - t
    · rw [if_pos c, if_pos (by omega)]
    · rw [if_neg c, if_neg (by omega)]
      unfold tb
      rw [List.getD_eq_getElem?_getD, List.getElem?_replicate]
      split <;> rfl
  · intro q q0 q1 q2
    rw [d5 q q0 q1, if_pos (by omega)]
theorem byt_bd (s : List UInt8) (j : Int) : 0 ≤ byt s j ∧ byt s j < 256 := by
  unfold byt
  have := (s.getD j.toNat 0).toNat_lt
  omega
theorem byt_strOf {B : List D} {j n : Int} (h0 : 0 ≤ j) (hj : j < n) (hn : n ≤ (B.length : Int)) (hv : 0 ≤ at' B j ∧ at' B j < 256) : byt (strOfL (B.take n.toNat)) j = at' B j := by
  unfold byt strOfL
  rw [List.getD_eq_getElem?_getD, List.getElem?_map, List.getElem?_take, if_pos (by omega), List.getElem?_eq_getElem (by omega)]
  have e : at' B j = (B[j.toNat]'(by omega)).toI := by unfold at'; rw [List.getD_eq_getElem?_getD, List.getElem?_eq_getElem (by omega)]; rfl
  rw [e] at hv ⊢
  show ((UInt8.ofNat (B[j.toNat]'(by omega)).toI.toNat).toNat : Int) = _
  rw [UInt8.toNat_ofNat']
  have : (B[j.toNat]'(by omega)).toI.toNat < 256 := by omega
  rw [Nat.mod_eq_of_lt (by simpa using this)]
  omega
theorem byt_app {S T : List UInt8} {j : Int} (h0 : 0 ≤ j) : byt (S ++ T) j = if j < (S.length : Int) then byt S j else byt T (j - (S.length : Int)) := by
  unfold byt
  rw [List.getD_eq_getElem?_getD, List.getElem?_append]
  by_cases c : j < (S.length : Int)
  · rw [if_pos c, if_pos (by omega), List.getD_eq_getElem?_getD]
  · rw [if_neg c, if_neg (by omega), List.getD_eq_getElem?_getD, show j.toNat - S.length = (j - (S.length : Int)).toNat by omega]
theorem RS_take {p nx R f c : Int} {s : List UInt8} {nn : Bool} {al : Int} {M A : List D} {base : Int} {T : List UInt8} {b1 b2 : Bool} {H B : List D} (h : RS R nx f c nn al M A base T H B) (hs : (s.length : Int) ≤ 140737488351232) :
    ∃ (t nx' c' : Int) (nn' : Bool) (al' : Int) (M' A' : List D) (T' : List UInt8) (b1' b2' : Bool) (H' B' : List D),
      spTake [.i p, .s s, .i nx, .i R, .i f, .i c, .b nn, .i al, .ls M, .ls A] = some (1, [.i t, .i nx', .i R, .i f, .i c', .b nn', .i al', .ls M', .ls A']) ∧
      spRTake [.i p, .s s, .i R, .i base, .s T, .b b1, .i R, .b b2, .i R, .ls H, .ls B] = some (1, [.i t, .i R, .i base, .s T', .b b1', .i R, .b b2', .i R, .ls H', .ls B']) ∧
      RS R nx' f c' nn' al' M' A' base T' H' B' := by
  by_cases hp : p < 0 ∨ p > 1099511627776
  · exact ⟨0, nx, c, nn, al, M, A, T, b1, b2, H, B, take_far hp, rtake_far hp, h⟩
  have p0 : 0 ≤ p := by omega
  have p1 : p ≤ 1099511627776 := by omega
  obtain ⟨si, ndm, hH, hB, hT, b0, nxE, nxB, txt, erl, rng⟩ := h
  have si' := si
  obtain ⟨R0, R1, f0, f1, c0, c1, nz, Al⟩ := si'
  obtain ⟨t, nn', al', M1, M', A', a1, a2, a3, a4, a5, a6, a7, a8, a9, a10, a11, a12, a13⟩ := take_spec T3 T5 T9 T11 (p := p) (nx := nx) (s := s) si ndm (by omega) (by omega) p0 p1 (by omega)
  obtain ⟨tr, H1, B1, H', B', g1, g2, g3, g4, g5, g6, g7, g8, g9, g10, g11, g12⟩ := rtake_spec (p := p) (nx := nx) (R := R) (base := base) (s := s) (T := T) (b1 := b1) (b2 := b2) (H := H) (B := B) p0 p1 b0 (by omega) nxB hs R0 R1 (by omega) hH hB
  -- what both hold when all of the piece is laid
  have both : ∀ q, 0 ≤ q → q < R → tb H1 q = (mfind (nx + q) M1).isSome ∧ ∀ v, mfind (nx + q) M1 = some v → at' B1 q = v := by
    intro q q0 q1
    rw [g2 q q0 q1, g3 q q0 q1, a2, hT]
    obtain ⟨k1, k2⟩ := erl q q0 q1
    by_cases cc : p ≤ nx + q ∧ nx + q < p + (s.length : Int) ∧ q < R - c
    · rw [show decide (q < R - c ∧ p ≤ nx + q ∧ nx + q < p + (s.length : Int)) = true by simp; omega]
      cases hm : mfind (nx + q) M with
      | none =>
        rw [hm] at k1
        rw [if_pos ⟨by omega, cc.2.1, by omega, rfl⟩]
        refine ⟨by simp, fun v hv => ?_⟩
        injection hv with hv
        rw [if_pos ⟨k1, cc.2.2, cc.1, cc.2.1⟩]; exact hv
      | some v0 =>
        rw [hm] at k1
        rw [if_neg (by simp)]
        refine ⟨by simp, fun v hv => ?_⟩
        rw [if_neg (by rintro ⟨z, _⟩; rw [k1] at z; cases z)]
        exact k2 v (by rw [hm]; exact hv)
    · rw [show decide (q < R - c ∧ p ≤ nx + q ∧ nx + q < p + (s.length : Int)) = false by simp; omega]
      rw [if_neg (by omega), if_neg (by omega)]
      refine ⟨by rw [k1]; simp, fun v hv => k2 v hv⟩
  have rng1 : ∀ q v, mfind q M1 = some v → nx ≤ q ∧ q < nx + (R - c) ∧ q < 281474976710656 ∧ 0 ≤ v ∧ v < 256 := by
    intro q v hv
    rw [a2] at hv
    split at hv
    · rename_i hh
      injection hv with hv
      have := byt_bd s (q - p)
      exact ⟨by omega, hh.2.2.1, by omega, by omega, by omega⟩
    · exact rng q v hv
  have some1 : ∀ {q}, mfind q M1 ≠ none → ∃ v, mfind q M1 = some v := by
    intro q hq
    cases h : mfind q M1 with
    | none => exact absurd h hq
    | some v => exact ⟨v, rfl⟩
  have teq : tr = t := by
    rcases Int.lt_trichotomy tr t with z | z | z
    · exfalso
      rcases g8 with g8 | g8
      · omega
      · have := (both tr g5 (by omega)).1
        rw [g8] at this
        obtain ⟨v, hv⟩ := some1 (a8 tr g5 z)
        rw [hv] at this; cases this
    · exact z
    · exfalso
      have := (both t a4 (by omega)).1
      rw [g7 t a4 z] at this
      rcases a9 with a9 | a9
      · cases hm : mfind (nx + t) M1 with
        | none => rw [hm] at this; cases this
        | some v => have := rng1 _ _ hm; omega
      · rw [a9] at this; cases this
  subst teq
  have nxB' : nx + tr ≤ 281474976710656 := by
    by_cases z : tr = 0
    · omega
    · obtain ⟨v, hv⟩ := some1 (a8 (tr - 1) (by omega) (by omega))
      have := rng1 _ _ hv; omega
  refine ⟨tr, nx + tr, c + tr, nn', al', M', A', _, true, true, H', B', a1, g1, ⟨a6, a7, g9, g10, ?_, b0, by omega, nxB', ?_, ?_, ?_⟩⟩
  · rw [List.length_append]; unfold strOfL; rw [List.length_map, List.length_take]; omega
  · intro j j0 j1
    rw [byt_app j0]
    by_cases z : j < c
    · rw [if_pos (by omega), a12 j j0 z]; exact txt j j0 z
    · rw [if_neg (by omega)]
      have e := a13 (j - c) (by omega) (by omega)
      rw [show c + (j - c) = j by omega] at e
      obtain ⟨v, hv⟩ := some1 (a8 (j - c) (by omega) (by omega))
      have hb := (both (j - c) (by omega) (by omega)).2 v hv
      have hr := rng1 _ _ hv
      rw [e, hv, show j - (T.length : Int) = j - c by omega, byt_strOf (by omega) (by omega) (by omega) (by rw [hb]; exact hr.2.2.2), hb]; rfl
  · intro k k0 k1
    rw [g11 k k0 k1]
    by_cases z : k < R - tr
    · obtain ⟨w1, w2⟩ := both (k + tr) (by omega) (by omega)
      rw [if_pos z, w1, a10, if_neg (by omega), show nx + tr + k = nx + (k + tr) by omega]
      refine ⟨rfl, fun v hv => ?_⟩
      rw [g12 k k0 k1 z]; exact w2 v hv
    · rw [if_neg z, a10, if_neg (by omega)]
      have hn : mfind (nx + tr + k) M1 = none := by
        cases hm : mfind (nx + tr + k) M1 with
        | none => rfl
        | some v => have := rng1 _ _ hm; omega
      rw [hn]
      exact ⟨rfl, fun v hv => by cases hv⟩
  · intro q v hv
    rw [a10] at hv
    split at hv
    · cases hv
    · have := rng1 q v hv
      exact ⟨by omega, by omega, this.2.2⟩
theorem RS_read {n nx R f c : Int} {nn : Bool} {al : Int} {M A : List D} {base : Int} {T : List UInt8} {b1 b2 : Bool} {H B : List D} (h : RS R nx f c nn al M A base T H B) :
    ∃ (f' : Int) (bs : List UInt8) (base' : Int) (T' : List UInt8),
      spRead [.i n, .i nx, .i R, .i f, .i c, .b nn, .i al, .ls M, .ls A] = some (1, [.s bs, .i nx, .i R, .i f', .i (c - min (max n 0) c), .b nn, .i al, .ls M, .ls A]) ∧
      spRRead [.i n, .i R, .i base, .s T, .b b1, .i R, .b b2, .i R, .ls H, .ls B] = some (1, [.s bs, .i R, .i base', .s T', .b b1, .i R, .b b2, .i R, .ls H, .ls B]) ∧
      RS R nx f' (c - min (max n 0) c) nn al M A base' T' H B := by
  obtain ⟨si, ndm, hH, hB, hT, b0, nxE, nxB, txt, erl, rng⟩ := h
  have si' := si
  obtain ⟨R0, R1, f0, f1, c0, c1, nz, Al⟩ := si'
  obtain ⟨f', bs, a1, a2, a3, a4, a5⟩ := read_spec R24 R26 (n := n) (nx := nx) (M := M) si
  generalize ht : min (max n 0) c = t at *
  have hbs : bs = T.take t.toNat := by
    apply List.ext_getElem?
    intro i
    by_cases z : i < t.toNat
    · have e5 := a5 (i : Int) (by omega) (by omega)
      rw [txt _ (by omega) (by omega), byt_at (by omega) (by omega), Int.toNat_natCast] at e5
      rw [List.getD_eq_getElem?_getD, List.getD_eq_getElem?_getD, List.getElem?_eq_getElem (by omega), List.getElem?_eq_getElem (by omega)] at e5
      rw [List.getElem?_take, if_pos z, List.getElem?_eq_getElem (by omega), List.getElem?_eq_getElem (by omega)]
      exact congrArg some e5
    · rw [List.getElem?_eq_none (by omega), List.getElem?_eq_none (by rw [List.length_take]; omega)]
  refine ⟨f', bs, base + t, T.drop t.toNat, a1, ?_, ⟨a2, ndm, hH, hB, by rw [List.length_drop]; omega, by omega, by omega, nxB, ?_, erl, ?_⟩⟩
  · show stepRRead n R base T b1 R b2 R H B = _
    unfold stepRRead
    extract_lets -merge x0 x1 x2 x3 x4 x5 x6 x7 x8 x9 x10 x11 x12 x13 x14 x15 x16 x17
    have e1 : x1 = max n 0 := by
      show (if decide (n < 0) = true then 0 else n) = _
      by_cases z : n < 0
      · rw [if_pos (by simpa using z)]; omega
      · rw [if_neg (by simpa using z)]; omega
    have e4 : x4 = t := by
      show (if decide (x1 > (T.length : Int)) = true then (T.length : Int) else x1) = _
      rw [e1]
      by_cases z : max n 0 > (T.length : Int)
      · rw [if_pos (by simpa using z)]; omega
      · rw [if_neg (by simpa using z)]; omega
    have e5 : x5 = true := by show decide (x4 ≥ 0) = true; rw [e4]; simp; omega
    have e6 : x6 = true := by show decide (x4 ≤ (T.length : Int)) = true; rw [e4]; simp; omega
    have e7 : x7 = true := by show decide (0 ≤ x4) = true; rw [e4]; simp; omega
    have e9 : x9 = true := by show (if x5 = true then (if x6 = true then x7 else false) else false) = true; rw [e5, e6, e7]; rfl
    have e14 : x14 = true := by
      show (if decide ((T.length : Int) ≥ 0) = true then (if decide ((T.length : Int) ≤ (T.length : Int)) = true then (if x5 = true then x6 else false) else false) else false) = true
      rw [e5, e6, if_pos (by simp), if_pos (by simp)]; rfl
    have e15 : x15 = bs := by show (T.drop (Int.toNat 0)).take (Int.toNat x4 - Int.toNat 0) = _; rw [e4, hbs]; simp
    have e16 : x16 = base + t := by show w64 (base + x4) = _; rw [e4, w64_in (by omega) (by omega)]
    have e17 : x17 = T.drop t.toNat := by
      show (T.drop (Int.toNat x4)).take (Int.toNat (T.length : Int) - Int.toNat x4) = _
      rw [e4, List.take_of_length_le (by rw [List.length_drop]; omega)]
    rw [if_pos e9, if_pos e14, e15, e16, e17]
  · intro j j0 j1
    rw [a4 j j0 j1, txt (t + j) (by omega) (by omega)]
    unfold byt
    rw [List.getD_eq_getElem?_getD, List.getD_eq_getElem?_getD, List.getElem?_drop, show t.toNat + j.toNat = (t + j).toNat by omega]
  · intro q v hv
    have := rng q v hv
    exact ⟨this.1, by omega, this.2.2⟩

theorem K33 (d : D) : F13 33 d = .b (spRead d.toL).isSome := by kernel_rfl
theorem K35 (d : D) : F13 35 d = .ls (match spRead d.toL with | some (_, ys) => ys | none => []) := by kernel_rfl
theorem K36 (d : D) : F13 36 d = .b (spRRead d.toL).isSome := by kernel_rfl
theorem K38 (d : D) : F13 38 d = .ls (match spRRead d.toL with | some (_, ys) => ys | none => []) := by kernel_rfl
theorem K21 (d : D) : F13 21 d = .b (loopV spRHeld d.toL).isSome := by kernel_rfl
theorem K23 (d : D) : F13 23 d = .ls (match loopV spRHeld d.toL with | some (_, ys) => ys | none => []) := by kernel_rfl
theorem K27 (d : D) : F13 27 d = .b (spTake d.toL).isSome := by kernel_rfl
theorem K29 (d : D) : F13 29 d = .ls (match spTake d.toL with | some (_, ys) => ys | none => []) := by kernel_rfl
theorem K30 (d : D) : F13 30 d = .b (spRTake d.toL).isSome := by kernel_rfl
theorem K32 (d : D) : F13 32 d = .ls (match spRTake d.toL with | some (_, ys) => ys | none => []) := by kernel_rfl
theorem RS_held {R nx f c : Int} {nn : Bool} {al : Int} {M A : List D} {base : Int} {T : List UInt8} {b1 b2 : Bool} {H B : List D} (h : RS R nx f c nn al M A base T H B) :
    loopV spRHeld [.i 0, .i 0, .i R, .i base, .s T, .b b1, .i R, .b b2, .i R, .ls H, .ls B] = some (1, [.i (M.length : Int), .i R, .i base, .s T, .b b1, .i R, .b b2, .i R, .ls H, .ls B]) := by
  have e := rheld_loop (R := R) (base := base) (T := T) (b1 := b1) (b2 := b2) (H := H) (B := B) h.si.R1 h.hH R.toNat 0 (by have := h.si.R0; omega)
  rw [h.held] at e
  exact e
def LenOk (d : D) : Prop := ((d.toL.getD 2 (.i 0)).toS.length : Int) ≤ 140737488351232
set_option maxHeartbeats 4000000 in
theorem main_loop {L : List D} (hL : ∀ x ∈ L, LenOk x) (hl : (L.length : Int) ≤ 9223372036854775807) : ∀ (k : Nat) (i R nx f c : Int) (nn : Bool) (al : Int) (M A : List D) (base : Int) (T : List UInt8) (b1 b2 : Bool) (H B : List D), 0 ≤ i → (L.length : Int) - i = k → RS R nx f c nn al M A base T H B →
    ∃ ys, loopV spMain [.ls L, .i i, .i nx, .i R, .i base, .s T, .b b1, .i R, .b b2, .i R, .i R, .i f, .i c, .b nn, .i al, .ls M, .ls H, .ls B, .ls A] = some (2, ys)
  | 0, i, R, nx, f, c, nn, al, M, A, base, T, b1, b2, H, B, i0, hk, h => by
    refine ⟨[.i nx, .i R, .i base, .s T, .b b1, .i R, .b b2, .i R, .i R, .i f, .i c, .b nn, .i al, .ls M, .ls H, .ls B, .ls A], loopV_out (j := 1) ?_⟩
    show stepMain (F13 33) (F13 36) (F13 35) (F13 38) (F13 21) (F13 23) (F13 27) (F13 30) (F13 29) (F13 32) L i nx R base T b1 R b2 R R f c nn al M H B A = _
    unfold stepMain
    extract_lets -merge x0 x1
    rw [if_neg (by show ¬ decide (i < (L.length : Int)) = true; simp; omega)]
  | k + 1, i, R, nx, f, c, nn, al, M, A, base, T, b1, b2, H, B, i0, hk, h => by
    have hi : i < (L.length : Int) := by omega
    have hmem : L.getD i.toNat (.i 0) ∈ L := by
      rw [List.getD_eq_getElem?_getD, List.getElem?_eq_getElem (by omega)]
      exact List.getElem_mem _
    have hlen := hL _ hmem
    suffices hs : ∃ nx' f' c' nn' al' M' A' base' T' b1' b2' H' B', spMain [.ls L, .i i, .i nx, .i R, .i base, .s T, .b b1, .i R, .b b2, .i R, .i R, .i f, .i c, .b nn, .i al, .ls M, .ls H, .ls B, .ls A] = some (0, [.ls L, .i (i + 1), .i nx', .i R, .i base', .s T', .b b1', .i R, .b b2', .i R, .i R, .i f', .i c', .b nn', .i al', .ls M', .ls H', .ls B', .ls A']) ∧ RS R nx' f' c' nn' al' M' A' base' T' H' B' by
      obtain ⟨nx', f', c', nn', al', M', A', base', T', b1', b2', H', B', h1, h2⟩ := hs
      obtain ⟨ys, g⟩ := main_loop hL hl k (i + 1) R nx' f' c' nn' al' M' A' base' T' b1' b2' H' B' (by omega) (by omega) h2
      exact ⟨ys, (loopV_again h1).trans g⟩
    have hE : spMain [.ls L, .i i, .i nx, .i R, .i base, .s T, .b b1, .i R, .b b2, .i R, .i R, .i f, .i c, .b nn, .i al, .ls M, .ls H, .ls B, .ls A] = stepMain (F13 33) (F13 36) (F13 35) (F13 38) (F13 21) (F13 23) (F13 27) (F13 30) (F13 29) (F13 32) L i nx R base T b1 R b2 R R f c nn al M H B A := rfl
    rw [hE]
    unfold stepMain
    extract_lets -merge x0 x1 x2 x3 x4 x5 x6 x7 x8 x9 x10 x11 x12 x13 x14 x15 x16 x17 x18 x19 x20 x21 x22 x23 x24 x25 x26 x27 x28 x29 x30 x31 x32 x33 x34 x35 x36 x37 x38 x39 x40 x41 x42 x43 x44 x45 x46 x47 x48 x49 x50 x51 x52 x53 x54 x55 x56 x57 x58 x59 x60 x61 x62 x63 x64 x65 x66 x67 x68 x69 x70 x71 x72 x73 x74 x75 x76 x77 x78 x79 x80 x81 x82 x83 x84 x85 x86 x87 x88 x89 x90 x91 x92 x93 x94 x95 x96 x97 x98 x99 x100 x101 x102 x103 x104 x105 x106 x107 x108 x109 x110 x111 x112 x113 x114 x115 x116 x117 x118 x119 x120 x121 x122 x123 x124 x125 x126 x127 x128 x129 x130 x131 x132 x133 x134 x135 x136 x137 x138 x139 x140 x141 x142 x143 x144 x145 x146 x147 x148 x149 x150 x151 x152 x153 x154 x155 x156 x157 x158 x159 x160 x161 x162 x163 x164 x165 x166 x167 x168 x169 x170 x171 x172 x173 x174 x175 x176 x177 x178 x179 x180 x181 x182 x183 x184
    have e1 : x1 = true := by show decide (i < (L.length : Int)) = true; simpa using hi
    have e3 : x3 = true := by show (if decide (i ≥ 0) = true then x1 else false) = true; rw [if_pos (by simpa using i0), e1]
    have e89 : x89 = i + 1 := w64_in (by omega) (by omega)
    rw [if_pos e1, if_pos e3]
    by_cases c6 : x6 = true
    · -- a read
      obtain ⟨f', bs, base', T', r1, r2, r3⟩ := RS_read (n := x8) (b1 := b1) (b2 := b2) h
      generalize min (max x8 0) c = tt at *
      have r1 : spRead x17 = _ := r1
      have r2 : spRRead x30 = _ := r2
      have r4 := RS_held (b1 := b1) (b2 := b2) r3
      have e19 : x19 = true := by show (F13 33 (D.ls x17)).toB = true; rw [K33, show (D.ls x17).toL = x17 from rfl, r1]; rfl
      have e32 : x32 = true := by show (F13 36 (D.ls x30)).toB = true; rw [K36, show (D.ls x30).toL = x30 from rfl, r2]; rfl
      have e35 : x35 = [.s bs, .i nx, .i R, .i f', .i (c - tt), .b nn, .i al, .ls M, .ls A] := by show (F13 35 (D.ls x17)).toL = _; rw [K35, show (D.ls x17).toL = x17 from rfl, r1]; rfl
      have e38 : x38 = [.s bs, .i R, .i base', .s T', .b b1, .i R, .b b2, .i R, .ls H, .ls B] := by show (F13 38 (D.ls x30)).toL = _; rw [K38, show (D.ls x30).toL = x30 from rfl, r2]; rfl
      have e36 : x36 = .s bs := by show x35.getD 0 (.i 0) = _; rw [e35]; rfl
      have e39 : x39 = .s bs := by show x38.getD 0 (.i 0) = _; rw [e38]; rfl
      have e41 : x41 = false := by show (!(x36.toS == x39.toS)) = false; rw [e36, e39]; simp
      have e42 : x42 = .i base' := by show x38.getD 2 (.i 0) = _; rw [e38]; rfl
      have e44 : x44 = .s T' := by show x38.getD 3 (.i 0) = _; rw [e38]; rfl
      have e43 : x43 = base' := by show x42.toI = _; rw [e42]; rfl
      have e45 : x45 = T' := by show x44.toS = _; rw [e44]; rfl
      have e46 : x46 = .i R := by show x35.getD 2 (.i 0) = _; rw [e35]; rfl
      have e47 : x47 = R := by show x46.toI = _; rw [e46]; rfl
      have e49 : x49 = f' := by show (x35.getD 3 (.i 0)).toI = _; rw [e35]; rfl
      have e50 : x50 = .i (c - tt) := by show x35.getD 4 (.i 0) = _; rw [e35]; rfl
      have e51 : x51 = c - tt := by show x50.toI = _; rw [e50]; rfl
      have e53 : x53 = nn := by show (x35.getD 5 (.i 0)).toB = _; rw [e35]; rfl
      have e55 : x55 = al := by show (x35.getD 6 (.i 0)).toI = _; rw [e35]; rfl
      have e57 : x57 = A := by show (x35.getD 8 (.i 0)).toL = _; rw [e35]; rfl
      have R0 := r3.si.R0
      have R1 := r3.si.R1
      have q1 := r3.hT
      have q2 := r3.nxE
      have q3 := r3.nxB
      have q4 := r3.b0
      have q5 := r3.si.c0
      have q6 := r3.si.c1
      have e58 : x58 = c - tt := by show (x44.toS.length : Int) = _; rw [e44]; exact q1
      have e60 : x60 = false := by show (nx != w64 (x42.toI + x58)) = false; rw [e42, e58, show (D.i base').toI = base' from rfl, w64_in (by omega) (by omega)]; simpa using q2
      have e61 : x61 = false := by show (x50.toI != x58) = false; rw [e50, e58]; show ((c - tt) != (c - tt)) = false; simp
      have e64 : x64 = false := by show (w64 (x46.toI - x50.toI) != w64 (R - x58)) = false; rw [e46, e50, e58]; show (w64 (R - (c - tt)) != w64 (R - (c - tt))) = false; simp
      have r4' : loopV spRHeld x69 = some (1, [.i (M.length : Int), .i R, .i base', .s T', .b b1, .i R, .b b2, .i R, .ls H, .ls B]) := by
        show loopV spRHeld [.i 0, .i 0, .i R, .i x43, .s x45, .b b1, .i R, .b b2, .i R, .ls H, .ls B] = _
        rw [e43, e45]; exact r4
      have e71 : x71 = true := by show (F13 21 (D.ls x69)).toB = true; rw [K21, show (D.ls x69).toL = x69 from rfl, r4']; rfl
      have e79 : x79 = false := by
        show ((M.length : Int) != ((((F13 23 (D.ls x69)).toL).getD 0 (.i 0)).toI)) = false
        rw [K23, show (D.ls x69).toL = x69 from rfl, r4']
        show ((M.length : Int) != (M.length : Int)) = false; simp
      have n60 : ¬ x60 = true := by rw [e60]; decide
      have n61 : ¬ x61 = true := by rw [e61]; decide
      have n64 : ¬ x64 = true := by rw [e64]; decide
      have e74 : x74 = true := by show (if x60 = true then true else if x61 = true then true else if x64 = true then true else x71) = true; rw [if_neg n60, if_neg n61, if_neg n64, e71]
      have e82 : ¬ x82 = true := by show ¬ (if x60 = true then true else if x61 = true then true else if x64 = true then true else x79) = true; rw [if_neg n60, if_neg n61, if_neg n64, e79]; decide
      have e85 : x85 = base' := by show (if x60 = true then x42.toI else if x61 = true then x42.toI else if x64 = true then x42.toI else x43) = _; rw [if_neg n60, if_neg n61, if_neg n64, e43]
      have e88 : x88 = T' := by show (if x60 = true then x44.toS else if x61 = true then x44.toS else if x64 = true then x44.toS else x45) = _; rw [if_neg n60, if_neg n61, if_neg n64, e45]
      rw [if_pos ((if_pos c6).trans e19), if_pos ((if_pos c6).trans e32), if_pos c6, if_neg (by rw [e41]; decide), if_pos e74, if_neg e82, e89, e85, e88, e47, e49, e51, e53, e55, e57]
      exact ⟨nx, f', c - tt, nn, al, M, A, base', T', b1, b2, H, B, rfl, r3⟩
    · -- a piece
      have hlen : ((x91.length : Int)) ≤ 140737488351232 := hlen
      obtain ⟨t, nx', c', nn', al', M', A', T', b1', b2', H', B', r1, r2, r3⟩ := RS_take (p := x8) (s := x91) (b1 := b1) (b2 := b2) h hlen
      have r1 : spTake x93 = _ := r1
      have r2 : spRTake x97 = _ := r2
      have r4 := RS_held (b1 := b1') (b2 := b2') r3
      have e95 : x95 = true := by show (F13 27 (D.ls x93)).toB = true; rw [K27, show (D.ls x93).toL = x93 from rfl, r1]; rfl
      have e99 : x99 = true := by show (F13 30 (D.ls x97)).toB = true; rw [K30, show (D.ls x97).toL = x97 from rfl, r2]; rfl
      have e101 : x101 = [.i t, .i nx', .i R, .i f, .i c', .b nn', .i al', .ls M', .ls A'] := by show (F13 29 (D.ls x93)).toL = _; rw [K29, show (D.ls x93).toL = x93 from rfl, r1]; rfl
      have e104 : x104 = [.i t, .i R, .i base, .s T', .b b1', .i R, .b b2', .i R, .ls H', .ls B'] := by show (F13 32 (D.ls x97)).toL = _; rw [K32, show (D.ls x97).toL = x97 from rfl, r2]; rfl
      have e102 : x102 = .i t := by show x101.getD 0 (.i 0) = _; rw [e101]; rfl
      have e105 : x105 = .i t := by show x104.getD 0 (.i 0) = _; rw [e104]; rfl
      have e106 : ¬ x106 = true := by show ¬ (x102.toI != x105.toI) = true; rw [e102, e105]; simp
      have e107 : x107 = .i nx' := by show x101.getD 1 (.i 0) = _; rw [e101]; rfl
      have e108 : x108 = nx' := by show x107.toI = _; rw [e107]; rfl
      have e109 : x109 = .s T' := by show x104.getD 3 (.i 0) = _; rw [e104]; rfl
      have e110 : x110 = T' := by show x109.toS = _; rw [e109]; rfl
      have e111 : x111 = .b b1' := by show x104.getD 4 (.i 0) = _; rw [e104]; rfl
      have e112 : x112 = b1' := by show x111.toB = _; rw [e111]; rfl
      have e113 : x113 = .i R := by show x104.getD 5 (.i 0) = _; rw [e104]; rfl
      have e114 : x114 = R := by show x113.toI = _; rw [e113]; rfl
      have e115 : x115 = .b b2' := by show x104.getD 6 (.i 0) = _; rw [e104]; rfl
      have e116 : x116 = b2' := by show x115.toB = _; rw [e115]; rfl
      have e117 : x117 = .i R := by show x104.getD 7 (.i 0) = _; rw [e104]; rfl
      have e118 : x118 = R := by show x117.toI = _; rw [e117]; rfl
      have e119 : x119 = .i c' := by show x101.getD 4 (.i 0) = _; rw [e101]; rfl
      have e120 : x120 = c' := by show x119.toI = _; rw [e119]; rfl
      have e122 : x122 = nn' := by show (x101.getD 5 (.i 0)).toB = _; rw [e101]; rfl
      have e124 : x124 = al' := by show (x101.getD 6 (.i 0)).toI = _; rw [e101]; rfl
      have e125 : x125 = .ls M' := by show x101.getD 7 (.i 0) = _; rw [e101]; rfl
      have e126 : x126 = M' := by show x125.toL = _; rw [e125]; rfl
      have e127 : x127 = .ls H' := by show x104.getD 8 (.i 0) = _; rw [e104]; rfl
      have e128 : x128 = H' := by show x127.toL = _; rw [e127]; rfl
      have e129 : x129 = .ls B' := by show x104.getD 9 (.i 0) = _; rw [e104]; rfl
      have e130 : x130 = B' := by show x129.toL = _; rw [e129]; rfl
      have e132 : x132 = A' := by show (x101.getD 8 (.i 0)).toL = _; rw [e101]; rfl
      have R0 := r3.si.R0
      have R1 := r3.si.R1
      have q1 := r3.hT
      have q2 := r3.nxE
      have q3 := r3.nxB
      have q4 := r3.b0
      have q5 := r3.si.c0
      have q6 := r3.si.c1
      have e133 : x133 = c' := by show (x109.toS.length : Int) = _; rw [e109]; exact q1
      have n135 : ¬ x135 = true := by show ¬ (x107.toI != w64 (base + x133)) = true; rw [e107, e133, w64_in (by omega) (by omega)]; show ¬ (nx' != base + c') = true; simpa using q2
      have n136 : ¬ x136 = true := by show ¬ (x119.toI != x133) = true; rw [e119, e133]; show ¬ (c' != c') = true; simp
      have n139 : ¬ x139 = true := by show ¬ (w64 (R - x119.toI) != w64 (R - x133)) = true; rw [e119, e133]; show ¬ (w64 (R - c') != w64 (R - c')) = true; simp
      have r4' : loopV spRHeld x150 = some (1, [.i (M'.length : Int), .i R, .i base, .s T', .b b1', .i R, .b b2', .i R, .ls H', .ls B']) := by
        show loopV spRHeld [.i 0, .i 0, .i R, .i base, .s x110, .b x112, .i x114, .b x116, .i x118, .ls x128, .ls x130] = _
        rw [e110, e112, e114, e116, e118, e128, e130]; exact r4
      have e152 : x152 = true := by show (F13 21 (D.ls x150)).toB = true; rw [K21, show (D.ls x150).toL = x150 from rfl, r4']; rfl
      have n160 : ¬ x160 = true := by
        show ¬ ((x125.toL.length : Int) != ((((F13 23 (D.ls x150)).toL).getD 0 (.i 0)).toI)) = true
        rw [K23, show (D.ls x150).toL = x150 from rfl, r4', e125]
        show ¬ ((M'.length : Int) != (M'.length : Int)) = true; simp
      have e155 : x155 = true := by show (if x135 = true then true else if x136 = true then true else if x139 = true then true else x152) = true; rw [if_neg n135, if_neg n136, if_neg n139, e152]
      have e163 : ¬ x163 = true := by show ¬ (if x135 = true then true else if x136 = true then true else if x139 = true then true else x160) = true; rw [if_neg n135, if_neg n136, if_neg n139]; exact n160
      have e166 : x166 = T' := by show (if x135 = true then x109.toS else if x136 = true then x109.toS else if x139 = true then x109.toS else x110) = _; rw [if_neg n135, if_neg n136, if_neg n139, e110]
      have e169 : x169 = b1' := by show (if x135 = true then x111.toB else if x136 = true then x111.toB else if x139 = true then x111.toB else x112) = _; rw [if_neg n135, if_neg n136, if_neg n139, e112]
      have e172 : x172 = R := by show (if x135 = true then x113.toI else if x136 = true then x113.toI else if x139 = true then x113.toI else x114) = _; rw [if_neg n135, if_neg n136, if_neg n139, e114]
      have e175 : x175 = b2' := by show (if x135 = true then x115.toB else if x136 = true then x115.toB else if x139 = true then x115.toB else x116) = _; rw [if_neg n135, if_neg n136, if_neg n139, e116]
      have e178 : x178 = R := by show (if x135 = true then x117.toI else if x136 = true then x117.toI else if x139 = true then x117.toI else x118) = _; rw [if_neg n135, if_neg n136, if_neg n139, e118]
      have e181 : x181 = H' := by show (if x135 = true then x127.toL else if x136 = true then x127.toL else if x139 = true then x127.toL else x128) = _; rw [if_neg n135, if_neg n136, if_neg n139, e128]
      have e184 : x184 = B' := by show (if x135 = true then x129.toL else if x136 = true then x129.toL else if x139 = true then x129.toL else x130) = _; rw [if_neg n135, if_neg n136, if_neg n139, e130]
      rw [if_pos (if_neg c6), if_pos (if_neg c6), if_neg c6, if_pos e95, if_pos e99, if_neg e106, if_pos e155, if_neg e163, e89, e108, e120, e122, e124, e126, e132, e166, e169, e172, e175, e178, e181, e184]
      exact ⟨nx', f, c', nn', al', M', A', base, T', b1', b2', H', B', rfl, r3⟩

theorem RS0 {R : Int} (h0 : 0 ≤ R) (h1 : R ≤ 65535) : RS R 0 0 0 false 0 [] [] 0 [] (List.replicate R.toNat (.b false)) (List.replicate R.toNat (.i 0)) :=
  ⟨⟨h0, h1, by omega, .inr rfl, by omega, h0, fun _ => rfl, fun h => by cases h⟩, List.nodup_nil, by rw [List.length_replicate]; omega, by rw [List.length_replicate]; omega, rfl, by omega, by omega, by omega, fun j h1 h2 => by omega, fun k k0 k1 => by
    unfold tb
    rw [List.getD_eq_getElem?_getD, List.getElem?_replicate]
    refine ⟨by split <;> rfl, fun v hv => by cases hv⟩, fun q v h => by cases h⟩
theorem lenOk {d : D} (h : InSE 140737488351232 (.row [.bool, .int .i64, .str]) d) : LenOk d := by
  simp only [InSE] at h
  generalize hl : d.toL = l at h
  unfold LenOk
  rw [hl]
  match l, h with
  | [], h => simp [InSs] at h
  | a :: [], h => simp [InSs] at h
  | a :: b :: [], h => simp [InSs] at h
  | a :: b :: e :: r, h =>
    simp only [InSs, InS] at h
    have := h.2.2.1
    show ((e.toS.length : Int)) ≤ _
    omega
set_option maxHeartbeats 4000000 in
theorem pure (a0 : Int) (a1 : List D) (b0 : -9223372036854775808 ≤ a0 ∧ a0 ≤ 9223372036854775807) (b1 : InC (.sl (.row [.bool, .int .i64, .str])) (.ls a1)) (s1 : InS 140737488351232 (.sl (.row [.bool, .int .i64, .str])) (.ls a1)) : val F14 a0 a1 = true := by
  unfold val
  extract_lets -merge x0 x1 x2 x3 x4 x5 x6 x7 x8 x9 x10 x11 x12 x13 x14 x15 x16 x17 x18 x19 x20 x21 x22 x23 x24 x25 x26 x27 x28 x29 x30 x31 x32 x33 x34 x35 x36
  have hL : ∀ x ∈ a1, LenOk x := by
    simp only [InS, toL_ls] at s1
    exact fun x hx => lenOk (s1 x hx)
  have hl : (a1.length : Int) ≤ 9223372036854775807 := by
    simp only [InC, toL_ls] at b1
    exact b1.1
  have e1 : x1 = true := by show D.toB (F14 0 (D.ls [])) = true; rw [F_0]; rfl
  have e5 : x5 = min (max a0 0) 65535 := by
    show (if decide (a0 < 0) = true then 0 else (if decide (a0 > 65535) = true then 65535 else a0)) = _
    by_cases q : a0 < 0
    · rw [if_pos (by simpa using q)]; omega
    · rw [if_neg (by simpa using q)]
      by_cases r : a0 > 65535
      · rw [if_pos (by simpa using r)]; omega
      · rw [if_neg (by simpa using r)]; omega
  have e10 : x10 = min (max a0 0) 65535 := by show zmin (zmax a0 0) 65535 = _; rw [zminE, zmaxE]
  have e8 : x8 = true := by
    show (if decide (x5 ≥ 0) = true then decide (x5 ≤ 1099511627776) else false) = true
    rw [e5, if_pos (by simp; omega)]; simp; omega
  obtain ⟨ys, h⟩ := main_loop hL hl a1.length 0 (min (max a0 0) 65535) 0 0 0 false 0 [] [] 0 [] true true _ _ (by omega) (by omega) (RS0 (R := min (max a0 0) 65535) (by omega) (by omega))
  have h : loopV spMain x30 = some (2, ys) := by
    show loopV spMain [.ls a1, .i 0, .i 0, .i x5, .i 0, .s [], .b true, .i x5, .b true, .i x5, .i x10, .i 0, .i 0, .b false, .i 0, .ls [], .ls (List.replicate x5.toNat (.b false)), .ls (List.replicate x5.toNat (.i 0)), .ls []] = _
    rw [e5, e10]; exact h
  have e32 : x32 = true := by show (F14 39 (D.ls x30)).toB = true; rw [F_39, show (D.ls x30).toL = x30 from rfl, h]; rfl
  have e36 : x36 = true := by
    show (if ((F14 40 (D.ls x30)).toI == 0) = true then false else true) = true
    rw [F_40, show (D.ls x30).toL = x30 from rfl, h]; rfl
  rw [e1, e8, e32, e36]; rfl

theorem own : ownKnob Try.prog.godebug = none := by kernel_rfl
set_option maxRecDepth 100000 in
theorem lifted (os : Os) (started : os.Started) (H : Type) (enc : TypeId × Value → H) :
    ReturnsInHanded {} Try.checked os 6 .any (Rows.seqStreamsSpec.pre6 enc Try.prog Try.f6 Rows.seqStreamsRow.domain false) (Rows.seqStreamsSpec.post enc Try.prog Try.f6 false true false false) := by
  refine returnsSized (C := Try.checked) own started (by kernel_rfl) Try.func6
    (ChangeSpec.witness6 (enc := enc) (C := Try.checked) false ⟨#[], #[.int .i64 0, .slice none 0 0], []⟩ 8 (by kernel_rfl) (by kernel_rfl) (by kernel_rfl) (by kernel_rfl)) ?_
  intro W base args ds gs before hval0 hW hz
  have hval : ∀ (j : Nat) t v, Try.f6.params[j]? = some t → args[j]? = some v → Value.okWide Try.prog W .any base t v := hval0
  have hW' := hW
  obtain ⟨p, q, hA0, hV, rfl, hfz, hnd⟩ := hW
  have hA : DataW.TrodAll enc Try.prog W 0 (fun _ => true) true Try.f6.params.toList args.toList ds p := hA0
  rw [Try.params6] at hA hval hz
  obtain ⟨v0, vs0, d0, ds0, p0, q0, hargs, rfl, rfl, h0, r0⟩ := trodAll_cons hA
  obtain ⟨v1, vs1, d1, ds1, p1, q1, rfl, rfl, rfl, h1, r1⟩ := trodAll_cons r0
  obtain ⟨rfl, rfl, rfl⟩ := trodAll_nil r1
  obtain rfl : args = #[v0, v1] := by cases args; simp_all
  obtain ⟨rfl, rfl⟩ := trodVars_none hV
  obtain ⟨a0, rfl, c0⟩ := argWide_int Try.underlying3 (hval 0 3 v0 rfl rfl)
  have b0 := has_i64 c0
  have hv1 := argWide_slice Try.underlying45 (hval 1 45 v1 rfl rfl)
  obtain ⟨a1, ro1, b1, s1⟩ := arg_rslS (B := 140737488351232) (et := (.row [.bool, (.int .i64), .str])) (by kernel_rfl) h1 hv1 (fun m hm => of_decide_eq_true (List.all_eq_true.1 hz m (mem_weightsEach (i := 1) rfl rfl hm)))
  generalize v1 = sv1 at *
  refine (law_walkF (P := Try.prog) Try.checked.mixed (n := 1000) (f := 6) (args := symArgs) (F := F14) (R := blocksOf W) (l := [.i a0, .ls a1]) (Z := z14) (Ω := Om.none) (w := W) good14 (blocksOf_ok W) (by rw [run]; exact pure a0 a1 b0 b1 s1) (vs := [.int .i64 a0, sv1]) (Rels.cons (rel_int rfl) (Rels.cons (rel_rsl ro1 rfl) (Rels.nil)))).mono fun e W' ⟨he, hb⟩ => ?_
  subst he
  exact ⟨_, rfl, law_post (by kernel_rfl) (by rw [Try.params6]; intro t ht; simp at ht; rcases ht with rfl | rfl <;> exact ⟨by kernel_rfl, of_decide_eq_true (by kernel_rfl)⟩) (by kernel_rfl) Try.underlying4 rfl ⟨rfl, rfl, rfl⟩ hW' hb⟩

theorem over : Rows.seqStreamsRow.holds Try.pinned (OpenSpec.ofChange Rows.seqStreamsSpec) :=
  OpenClaim.holds_of_wide 6 Try.f6 rfl rfl rfl rfl rfl rfl rfl ⟨rfl, rfl, rfl, rfl, rfl⟩ rfl rfl rfl rfl rfl (by kernel_rfl) Try.func6 (by kernel_rfl)
    (of_decide_eq_true (by kernel_rfl)) (by unfold Func.isWrapper; first | (rw [if_pos (by decide +kernel)]; kernel_rfl) | (rw [if_neg (by decide +kernel)]; exact ⟨rfl, rfl⟩))
    (fun os started H enc _ => lifted os started H enc)
end Go.Proofs.Ytbbippgnmllcoaa.seqStreams
namespace Go.Proofs.Ytbbippgnmllcoaa
/-- THE STATEMENT. -/
theorem seqStreams_holds : Rows.SeqStreamsSaid := seqStreams.over
#print axioms seqStreams_holds
end Go.Proofs.Ytbbippgnmllcoaa
