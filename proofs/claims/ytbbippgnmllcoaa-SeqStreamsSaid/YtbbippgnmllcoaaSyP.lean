/- The symbolic executor, thirteenth part: from a law's run to its row. Own work of this session. -/
import Derived.Test.YtbbippgnmllcoaaSyO
import Derived.ProofKit
import Derived.OpenShut
set_option linter.unusedVariables false
namespace Go.Sy
open Go.ChangeShapes Go.WideShapes Go.ChangeAt Go.RowKit

def w64 (n : Int) : Int := IntKind.i64.wrap n
def w32 (n : Int) : Int := IntKind.i32.wrap n
def wu32 (n : Int) : Int := IntKind.u32.wrap n
def wu8 (n : Int) : Int := IntKind.u8.wrap n
def zmax (x y : Int) : Int := if y > x then y else x
def zmin (x y : Int) : Int := if y < x then y else x
theorem w64_eq (n : Int) : w64 n = if n % 18446744073709551616 ≥ 9223372036854775808 then n % 18446744073709551616 - 18446744073709551616 else n % 18446744073709551616 := by
  simp [w64, IntKind.wrap, IntKind.bits, IntKind.signed]
theorem w64_in {n : Int} (h : -9223372036854775808 ≤ n) (h' : n ≤ 9223372036854775807) : w64 n = n := by rw [w64_eq]; split <;> omega
theorem wu32_eq (n : Int) : wu32 n = n % 4294967296 := by simp [wu32, IntKind.wrap, IntKind.bits, IntKind.signed]
theorem w32_eq (n : Int) : w32 n = if n % 4294967296 ≥ 2147483648 then n % 4294967296 - 4294967296 else n % 4294967296 := by
  simp [w32, IntKind.wrap, IntKind.bits, IntKind.signed]

/-- The truth that a tree of outcomes comes to. -/
def T.okB (η : Env) : T (SV × List Chunk) → Bool
  | .ret (.bool e, []) => (e.den η).toB
  | .ret _ => false
  | .ite c t e => if (c.den η).toB then t.okB η else e.okB η
  | .asrt c t => (c.den η).toB && t.okB η
  | .fail _ => false
theorem okB_leaf {η : Env} : ∀ {t : T (SV × List Chunk)}, t.okB η = true → ∃ e, t.leaf η = some (.bool e, []) ∧ (e.den η).toB = true
  | .ret (.bool e, []), h => ⟨e, rfl, h⟩
  | .ret (.bool e, _ :: _), h => by simp [T.okB] at h
  | .ret (.top, _), h | .ret (.unk, _), h | .ret (.int .., _), h | .ret (.str _, _), h | .ret (.nil, _), h | .ret (.ptr .., _), h | .ret (.snil, _), h | .ret (.slice .., _), h
  | .ret (.asl .., _), h | .ret (.eptr .., _), h | .ret (.rsl .., _), h | .ret (.rptr .., _), h | .ret (.hnd _, _), h | .ret (.fn _, _), h | .ret (.clo .., _), h | .ret (.agg _, _), h | .ret (.tup _, _), h => by simp [T.okB] at h
  | .ite c t e, h => by
    simp only [T.okB, T.leaf] at h ⊢
    split
    · rename_i hc; rw [if_pos hc] at h; exact okB_leaf h
    · rename_i hc; rw [if_neg hc] at h; exact okB_leaf h
  | .asrt c t, h => by
    simp only [T.okB, Bool.and_eq_true] at h
    simp only [T.leaf, h.1, if_true]
    exact okB_leaf h.2
  | .fail _, h => by simp [T.okB] at h

/-- Variables; no named function, no block that is only read. -/
def env (l : List D) : Env := ⟨fun n => l.getD n default, fun _ d => d, fun _ => none⟩
/-- With named functions. -/
def envF (F : Nat → D → D) (l : List D) : Env := ⟨fun n => l.getD n default, F, fun _ => none⟩

/-- A law that the executor has found true, from an empty memory of its own. -/
theorem law_walk {P : Program} (hm : P.follows .mixedOrders = true) {n : Nat} {f : FuncId} {args : List SV} {η : Env} {Z : Ext} {Ω : Om} {w : World} (hZ : ExtOK P Ω η w (fun _ => False) Z)
    (hR : ∀ b cs, η.R b = some cs → b < w.heap.size ∧ ∃ ty fz, w.heap[b]? = some (.cells ⟨cs⟩ ty fz)) (h : (evFun P Z n f args []).okB η = true) {vs : List Value} (hr : Rels η [] args vs) :
    Calls P f ⟨vs⟩ w fun e w' => e = .returned (.bool true) ∧ Below w.heap.size w w' := by
  obtain ⟨e, h1, h2⟩ := okB_leaf h
  have hI : Inv Ω η w (fun _ => False) [] [] w := ⟨rfl, Keep.refl _ _, fun b cs hb => ⟨fun h => h, hR b cs hb⟩, fun _ _ => False, by simp, by simp, by simp⟩
  refine (run_sound hm hZ h1 hI hr).mono fun e' w' ⟨u, ρ', he, _, hI', hu⟩ => ?_
  simp only [Rel] at hu
  rw [h2] at hu; subst hu
  have kk := hI'.keep
  exact ⟨he, kk.os, kk.tape, kk.output, kk.size, fun k hk => kk.block k hk (fun h => h)⟩

theorem rel_int {η : Env} {ρ : List Hd} {k : IntKind} {e : E} {n : Int} (h : n = (e.den η).toI) : Rel η ρ (.int k e) (.int k n) := by simp only [Rel]; rw [h]
theorem rel_bool {η : Env} {ρ : List Hd} {e : E} {b : Bool} (h : b = (e.den η).toB) : Rel η ρ (.bool e) (.bool b) := by simp only [Rel]; rw [h]
theorem rel_agg {η : Env} {ρ : List Hd} {l : List SV} {vs : List Value} (h : Rels η ρ l vs) : Rel η ρ (.agg l) (.agg ⟨vs⟩) := by simp only [Rel]; exact ⟨vs, rfl, h⟩
theorem of_get {α : Type} {l : List α} {i : Nat} {x c : α} (h : l[i]? = some x) (hc : ∃ y, l[i]? = some y ∧ y = c) : x = c := by obtain ⟨y, h1, rfl⟩ := hc; rw [h] at h1; injection h1

/-! ### The row -/
theorem trodAll_stays {H : Type} {enc : TypeId × Value → H} {P : Program} (hl : laidOutB P = true) {W W' : World} (hb : Below W.heap.size W W') : ∀ {ts : List TypeId} {vs : List Value} {ds : List (DataW H)} {p : List MemPlace},
    (∀ t ∈ ts, P.readableRec t = true ∧ t < P.types.size) → DataW.TrodAll enc P W 0 (fun _ => true) true ts vs ds p → (∀ x ∈ p, x.block < W.heap.size) → ∀ sp : Nat → Bool, (∀ x ∈ p, sp x.block = true) →
    DataW.TrodAll enc P W' 0 sp true ts vs ds p
  | [], [], [], p, _, h, _, _, _ => h
  | t :: ts, v :: vs, d :: ds, p, ht, h, hlt, sp, hsp => by
    obtain ⟨p1, q, h1, h2, rfl⟩ := h
    refine ⟨p1, q, WideElems.Trod_stays hl (ht t (by simp)).1 (ht t (by simp)).2 h1 (fun x hx => hb.same (hlt x (by simp [hx]))) (fun x hx => hsp x (by simp [hx])), ?_, rfl⟩
    exact trodAll_stays hl hb (fun t' h' => ht t' (by simp [h'])) h2 (fun x hx => hlt x (by simp [hx])) sp (fun x hx => hsp x (by simp [hx]))
  | [], [], _ :: _, _, _, h, _, _, _ => h.elim
  | [], _ :: _, _, _, _, h, _, _, _ => h.elim
  | _ :: _, [], _, _, _, h, _, _, _ => h.elim
  | _ :: _, _ :: _, [], _, _, h, _, _, _ => h.elim

/-- What the row asks behind a law's call that returned true and turned nothing that was there. -/
theorem law_post {H : Type} {enc : TypeId × Value → H} {P : Program} {f : Func} {s : ChangeSpec} {apart fresh handsOn : Bool} {W W' : World} {args : Array Value} {ds gs : List (DataW H)} {before : List MemPlace} {tb : TypeId}
    (hl : laidOutB P = true) (hread : ∀ t ∈ f.params.toList, P.readableRec t = true ∧ t < P.types.size) (hres : f.resultTypes = #[tb]) (htb : P.underlying tb = some .bool) (hv : s.vars = [])
    (hs : (s.fn H (ds ++ gs)).results = [.lit (.bool true)] ∧ (s.fn H (ds ++ gs)).args = ds ∧ (s.fn H (ds ++ gs)).vars = [])
    (hW : DataW.Whole enc P f.params.toList s.vars apart W args.toList ds gs before) (hb : Below W.heap.size W W') : s.post enc P f apart fresh handsOn false W args (.bool true) W' := by
  have hlt := hW.lt
  have hW' := hW
  obtain ⟨p, q, h1, h2, rfl, _, _⟩ := hW
  rw [hv] at h2
  have hq : q = [] ∧ gs = [] := by
    cases gs with
    | nil => exact ⟨h2, rfl⟩
    | cons g gs => exact h2.elim
  obtain ⟨rfl, rfl⟩ := hq
  refine ⟨ds, [], p ++ [], [], p, [], hW', ?_, ?_, ?_, hb.frame _, fun h => by cases h⟩
  · rw [hs.1, hres]
    exact trodAll_cons_mk (shut_bool htb _) trodAll_mk0
  · rw [hs.2.1]
    exact trodAll_stays hl hb hread h1 (fun x hx => hlt x (by simp [hx])) _ (fun x hx => by simpa using hlt x (by simp [hx]))
  · rw [hs.2.2, hv]; rfl

/-! ### What an argument by value is -/
theorem argWide_int {P : Program} {w : World} {r : Reach} {b : Nat} {t : TypeId} {k : IntKind} {v : Value} (ht : P.underlying t = some (.int k)) (h : Value.okWide P w r b t v) : ∃ n, v = .int k n ∧ k.has n := by
  simp only [Value.okWide, ht, Cell.okWide, Cell.ok] at h
  cases v <;> simp_all
theorem cellWide_int {P : Program} {w : World} {r : Reach} {b : Nat} {t : TypeId} {k : IntKind} {v : Value} (ht : P.underlying t = some (.int k)) (h : Cell.okWide P w r b t v) : ∃ n, v = .int k n ∧ k.has n := by
  simp only [ht, Cell.okWide, Cell.ok] at h
  cases v <;> simp_all
theorem cellWide_bool {P : Program} {w : World} {r : Reach} {b : Nat} {t : TypeId} {v : Value} (ht : P.underlying t = some .bool) (h : Cell.okWide P w r b t v) : ∃ n, v = .bool n := by
  simp only [ht, Cell.okWide, Cell.ok] at h
  cases v <;> simp_all
theorem okWide_cells {P : Program} {w : World} {r : Reach} {b : Nat} {t : TypeId} {fs : Array Field} {v : Value} {ts : List TypeId} (ht : P.underlying t = some (.struct fs)) (hts : P.cellTypes P.depth t = some ts) (hC : P.cellsOf t = ts.length)
    (h : Value.okWide P w r b t v) : ∃ cs : List Value, v = .agg ⟨cs⟩ ∧ cs.length = ts.length ∧ ∀ (i : Nat) (u : TypeId), ts[i]? = some u → ∃ c, cs[i]? = some c ∧ Cell.okWide P w r b u c := by
  simp only [Value.okWide, ht] at h
  obtain ⟨cs, rfl, hsz, ts', h1, _, h3⟩ := h
  rw [hts] at h1; injection h1 with h1; subst h1
  have hlen : cs.toList.length = ts.length := by rw [← hC, ← hsz]; simp
  refine ⟨cs.toList, rfl, hlen, fun i u hu => ?_⟩
  have hi := (List.getElem?_eq_some_iff.1 hu).1
  have hc : cs.toList[i]? = some (cs.toList[i]'(by omega)) := List.getElem?_eq_getElem (by omega)
  refine ⟨_, hc, ?_⟩
  obtain ⟨u', g1, g2⟩ := h3 i _ (by rw [← Array.getElem?_toList]; exact hc)
  rw [Nat.mod_eq_of_lt hi, hu] at g1
  injection g1 with g1; subst g1
  exact g2
theorem has_i64 {n : Int} (h : IntKind.i64.has n) : -9223372036854775808 ≤ n ∧ n ≤ 9223372036854775807 := by
  simp [IntKind.has, IntKind.min, IntKind.max, IntKind.signed, IntKind.bits] at h; exact h
theorem has_u32 {n : Int} (h : IntKind.u32.has n) : 0 ≤ n ∧ n ≤ 4294967295 := by
  simp [IntKind.has, IntKind.min, IntKind.max, IntKind.signed, IntKind.bits] at h; exact h
theorem cellWide_str {P : Program} {w : World} {r : Reach} {b : Nat} {t : TypeId} {v : Value} (ht : P.underlying t = some .string) (h : Cell.okWide P w r b t v) :
    ∃ l : List UInt8, v = .string ⟨⟨l⟩⟩ ∧ (l.length : Int) ≤ 9223372036854775807 := by
  simp only [ht, Cell.okWide, Cell.ok] at h
  split at h <;> first
    | (rename_i s h1; cases h1; exact ⟨s.data.toList, rfl, h⟩)
    | simp_all
theorem argWide_str {P : Program} {w : World} {r : Reach} {b : Nat} {t : TypeId} {v : Value} (ht : P.underlying t = some .string) (h : Value.okWide P w r b t v) :
    ∃ l : List UInt8, v = .string ⟨⟨l⟩⟩ ∧ (l.length : Int) ≤ 9223372036854775807 := by
  unfold Value.okWide at h
  rw [ht] at h
  exact cellWide_str ht h
theorem rel_str {η : Env} {ρ : List Hd} {e : E} {l : List UInt8} (h : l = (e.den η).toS) : Rel η ρ (.str e) (.string ⟨⟨l⟩⟩) := by simp only [Rel]; rw [h]
end Go.Sy
