/-
  SeqNil: of no ring and no stream nothing comes, whatever place and text are asked for.
  No conditions: every input that can be read.
-/
import Derived.Test.YtbbippgnmllcoaaSyP
import Derived.Test.YtbbippgnmllcoaaRows
set_option linter.unusedVariables false
set_option linter.unusedSimpArgs false
namespace Go.Proofs.Ytbbippgnmllcoaa.seqNil
open Go.Sy Go.ChangeShapes Go.WideShapes Go.ChangeAt Go.RowKit
/-- What 'adit/aditlaw17.SeqNil' comes to. -/
def val (v0 : Int) (v1 : List UInt8) : Bool :=
  let x0 : Int := zmax v0 0
  let x1 : Int := zmin x0 0
  let x2 : Bool := (x1 : Int) == 0
  (if x2 then true else false)
def symArgs : List SV := [.int .i64 (.var 0), .str (.var 1)]
set_option maxRecDepth 100000 in
theorem run (v0 : Int) (v1 : List UInt8) : (evFun Try.prog Ext.none 1000 8 symArgs []).okB (env [.i v0, .s v1]) = val v0 v1 := by kernel_rfl

theorem pure (a0 : Int) (a1 : List UInt8) (b0 : -9223372036854775808 ≤ a0 ∧ a0 ≤ 9223372036854775807) (b1 : (a1.length : Int) ≤ 9223372036854775807) : val a0 a1 = true := by
  unfold val
  extract_lets x0 x1 x2
  have e1 : x1 = 0 := by
    show zmin (zmax a0 0) 0 = 0
    unfold zmin zmax
    split <;> split at * <;> omega
  have e2 : x2 = true := by show (x1 == 0) = true; rw [e1]; rfl
  rw [e2]; rfl

theorem own : ownKnob Try.prog.godebug = none := by kernel_rfl
set_option maxRecDepth 100000 in
theorem lifted (os : Os) (started : os.Started) (H : Type) (enc : TypeId × Value → H) :
    ReturnsInHanded {} Try.checked os 8 .any (Rows.seqNilSpec.pre6 enc Try.prog Try.f8 Rows.seqNilRow.domain false) (Rows.seqNilSpec.post enc Try.prog Try.f8 false true false false) := by
  refine returnsInHanded_of_change (C := Try.checked) own started (by kernel_rfl) Try.func8
    (ChangeSpec.witness6 (enc := enc) (C := Try.checked) false ⟨#[], #[.int .i64 0, .string .empty], []⟩ 8 (by kernel_rfl) (by kernel_rfl) (by kernel_rfl) (by kernel_rfl)) ?_
  intro W base args ds gs before hval0 hW hcnd _
  have hval : ∀ (j : Nat) t v, Try.f8.params[j]? = some t → args[j]? = some v → Value.okWide Try.prog W .any base t v := hval0
  have hW' := hW
  obtain ⟨p, q, hA0, hV, rfl, hfz, hnd⟩ := hW
  have hA : DataW.TrodAll enc Try.prog W 0 (fun _ => true) true Try.f8.params.toList args.toList ds p := hA0
  rw [Try.params8] at hA hval
  obtain ⟨v0, vs0, d0, ds0, p0, q0, hargs, rfl, rfl, h0, r0⟩ := trodAll_cons hA
  obtain ⟨v1, vs1, d1, ds1, p1, q1, rfl, rfl, rfl, h1, r1⟩ := trodAll_cons r0
  obtain ⟨rfl, rfl, rfl⟩ := trodAll_nil r1
  obtain rfl : args = #[v0, v1] := by cases args; simp_all
  obtain ⟨rfl, rfl⟩ := trodVars_none hV
  obtain ⟨a0, rfl, c0⟩ := argWide_int Try.underlying3 (hval 0 3 v0 rfl rfl)
  have b0 := has_i64 c0
  obtain ⟨a1, rfl, b1⟩ := argWide_str Try.underlying9 (hval 1 9 v1 rfl rfl)
  refine (law_walk (P := Try.prog) Try.checked.mixed (n := 1000) (f := 8) (args := symArgs) (η := env [.i a0, .s a1]) (Z := Ext.none) (Ω := Om.none) (w := W) ExtOK.none (by intro b cs h; simp [env] at h) (by rw [run]; exact pure a0 a1 b0 b1) (vs := [.int .i64 a0, .string ⟨⟨a1⟩⟩]) (Rels.cons (rel_int rfl) (Rels.cons (rel_str rfl) (Rels.nil)))).mono fun e W' ⟨he, hb⟩ => ?_
  subst he
  exact ⟨_, rfl, law_post (by kernel_rfl) (by rw [Try.params8]; intro t ht; simp at ht; rcases ht with rfl | rfl <;> exact ⟨by kernel_rfl, of_decide_eq_true (by kernel_rfl)⟩) (by kernel_rfl) Try.underlying4 rfl ⟨rfl, rfl, rfl⟩ hW' hb⟩

theorem over : Rows.seqNilRow.holds Try.pinned (OpenSpec.ofChange Rows.seqNilSpec) :=
  OpenClaim.holds_of_wide 8 Try.f8 rfl rfl rfl rfl rfl rfl rfl ⟨rfl, rfl, rfl, rfl, rfl⟩ rfl rfl rfl rfl rfl (by kernel_rfl) Try.func8 (by kernel_rfl)
    (of_decide_eq_true (by kernel_rfl)) (by unfold Func.isWrapper; first | (rw [if_pos (by decide +kernel)]; kernel_rfl) | (rw [if_neg (by decide +kernel)]; exact ⟨rfl, rfl⟩))
    (fun os started H enc _ => lifted os started H enc)
end Go.Proofs.Ytbbippgnmllcoaa.seqNil
namespace Go.Proofs.Ytbbippgnmllcoaa
/-- THE STATEMENT. -/
theorem seqNil_holds : Rows.SeqNilSaid := seqNil.over
#print axioms seqNil_holds
end Go.Proofs.Ytbbippgnmllcoaa
