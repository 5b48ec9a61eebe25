/- The symbolic executor, twelfth part: append, make, maps; one operation. Own work of this session. -/
import Derived.Test.YtbbippgnmllcoaaSyK
import Derived.Deep.DeepAppendWide
import Derived.Laws.MakeOwn
import Derived.Laws.OwnMore
import Derived.Laws.IdiomStrings
set_option linter.unusedVariables false
set_option linter.unusedSimpArgs false
namespace Go.Sy
section
variable {P : Program} {Ω : Om} {η : Env} {B : World} {T' : Nat → Prop} {ρ : List Hd} {m : List Chunk} {w : World}

/-! ### append -/
theorem encA_len {t : ET} {ds : List D} {cs : List Value} (h : EncA η.R t ds cs) : ds.length * t.width ≤ cs.length := by
  rcases Nat.eq_zero_or_pos ds.length with h0 | h0
  · rw [h0]; simp
  · have := encE_length (h (ds.length - 1) _ (List.getElem?_eq_getElem (by omega)))
    simp only [List.length_take, List.length_drop] at this
    have hm : ds.length * t.width = (ds.length - 1) * t.width + t.width := by
      rw [← Nat.succ_mul]; congr 1; omega
    rw [hm]
    rcases Nat.eq_zero_or_pos t.width with h1 | h1
    · rw [h1]; simp
    · omega
theorem encA_one {t : ET} {ds : List D} {cs : List Value} (h : EncA η.R t ds cs) : ∀ v ∈ cs.take (ds.length * t.width), v.oneCell' = true := by
  intro v hv
  obtain ⟨p, hp⟩ := List.getElem?_of_mem hv
  rw [List.getElem?_take] at hp
  split at hp
  · rename_i hlt
    have hw : 0 < t.width := by
      rcases Nat.eq_zero_or_pos t.width with h0 | h0
      · rw [h0] at hlt; simp at hlt
      · exact h0
    have hk : p / t.width < ds.length := (Nat.div_lt_iff_lt_mul hw).2 hlt
    have hE := h (p / t.width) _ (List.getElem?_eq_getElem hk)
    refine encE_one hE v ?_
    refine List.mem_of_getElem? (i := p % t.width) ?_
    rw [List.getElem?_take, if_pos (Nat.mod_lt _ hw), List.getElem?_drop]
    rw [show p / t.width * t.width + p % t.width = p by rw [Nat.mul_comm]; exact Nat.div_add_mod p t.width]
    exact hp
  · cases hp
theorem encA_join {t : ET} {as bs : List D} {c1 c2 c3 : List Value} (h1 : EncA η.R t as c1) (h2 : EncA η.R t bs c2) (e1 : ∀ p, p < as.length * t.width → c3[p]? = c1[p]?)
    (e2 : ∀ p, p < bs.length * t.width → c3[as.length * t.width + p]? = c2[p]?) : EncA η.R t (as ++ bs) c3 := by
  intro i d hd
  have key : ∀ (c : List Value) (i k : Nat), (∀ x, x < t.width → c3[i * t.width + x]? = c[k * t.width + x]?) → (c3.drop (i * t.width)).take t.width = (c.drop (k * t.width)).take t.width := by
    intro c i k hx
    apply List.ext_getElem?
    intro x
    rw [List.getElem?_take, List.getElem?_take, List.getElem?_drop, List.getElem?_drop]
    split
    · rename_i hlt; exact hx x hlt
    · rfl
  rcases Nat.lt_or_ge i as.length with hi | hi
  · rw [List.getElem?_append_left hi] at hd
    rw [key c1 i i]
    · exact h1 i d hd
    · intro x hx
      apply e1
      have := Nat.mul_le_mul_right t.width (show i + 1 ≤ as.length from hi)
      rw [Nat.add_mul] at this
      omega
  · rw [List.getElem?_append_right hi] at hd
    have hib : i - as.length < bs.length := (List.getElem?_eq_some_iff.1 hd).1
    rw [key c2 i (i - as.length)]
    · exact h2 _ d hd
    · intro x hx
      have h3 := e2 ((i - as.length) * t.width + x) (by
        have := Nat.mul_le_mul_right t.width (show i - as.length + 1 ≤ bs.length from hib)
        rw [Nat.add_mul] at this
        omega)
      rw [← h3]
      congr 1
      rw [← Nat.add_assoc, ← Nat.add_mul]
      congr 2
      omega

/-- What a slice of ours holds: its cells. -/
theorem held_rel (hI : Inv Ω η B T' ρ m w) {et : ET} {y : SV} {g a : E} (h : heldBy m et y = some (g, a)) (hg : (g.den η).toB = true) (hs : ∀ e, y ≠ .str e) {v : Value} (r : Rel η ρ y v) :
    ∃ (base : Option Addr) (l cap : Nat), v = .slice base l cap ∧ (a.den η).toL.length = l ∧ ((base = none ∧ l = 0) ∨
      (∃ b q cs, base = some ⟨b, q, none⟩ ∧ (l = 0 ∨ ∃ ty fz, w.heap[b]? = some (.cells ⟨cs⟩ ty fz)) ∧ EncA η.R et (a.den η).toL (cs.drop q)) ∨ (∃ a', base = some a' ∧ l = 0 ∧ isDst y = false)) := by
  unfold heldBy at h
  split at h
  · simp only [Option.some.injEq, Prod.mk.injEq] at h; obtain ⟨rfl, rfl⟩ := h
    simp only [Rel] at r; subst r
    exact ⟨none, 0, 0, rfl, rfl, .inl ⟨rfl, rfl⟩⟩
  · rename_i nn c k off len
    split at h
    · rename_i et' e hq
      split at h
      · rename_i hc
        rw [Bool.and_eq_true] at hc
        have e1 := ET.eqb_eq _ _ hc.1
        have e2 := Nat.eq_of_beq_eq_true hc.2
        subst e1 e2
        simp only [Option.some.injEq, Prod.mk.injEq] at h; obtain ⟨rfl, rfl⟩ := h
        have hfit := fits_of hg (.inr trivial)
        simp only [Rel] at r
        split at r
        · obtain ⟨b, o, n, off', l, cap, r1, r2, r3, r4, r5, r6⟩ := r
          obtain ⟨cs, ty, fz, g1, g2, g3, g4, g5⟩ := hI.arr hq r1
          have hsub : ((mkSubL e off (mkAdd off len)).den η).toL = ((e.den η).toL.drop off').take l ∧ (l = 0 ∨ off' + l ≤ (e.den η).toL.length) := by
            rw [den_mkSubL, den_mkAdd, r3]
            rcases r6 with rfl | r6
            · simp
            · rw [r6] at hfit ⊢
              rw [r3] at hfit
              refine ⟨?_, .inr (by omega)⟩
              have e1 : ((off' : Int) + (l : Int)).toNat - ((off' : Int)).toNat = l := by omega
              rw [e1]; simp
          have hlen : ((mkSubL e off (mkAdd off len)).den η).toL.length = l := by
            rw [hsub.1]; simp
            rcases hsub.2 with h0 | h0 <;> omega
          refine ⟨_, l, cap, r2, hlen, .inr (.inl ⟨b, _, cs, rfl, .inr ⟨ty, fz, g1⟩, ?_⟩)⟩
          rw [hsub.1]
          exact encA_cut g5 off' l
        · obtain ⟨rv, r3⟩ := r
          refine ⟨none, 0, 0, rv, ?_, .inl ⟨rfl, rfl⟩⟩
          rw [den_mkSubL, den_mkAdd, r3]; simp
      · cases h
    · cases h
  · rename_i et' e
    split at h
    · rename_i hc
      have e1 := ET.eqb_eq _ _ hc
      subst e1
      simp only [Option.some.injEq, Prod.mk.injEq] at h; obtain ⟨rfl, rfl⟩ := h
      simp only [Rel] at r
      rw [den_wL]
      rcases r with ⟨rfl, h0⟩ | ⟨a', rfl, h0⟩ | ⟨b, o, cap, rfl, h1, h2⟩
      · exact ⟨none, 0, 0, rfl, by rw [h0]; rfl, .inl ⟨rfl, rfl⟩⟩
      · exact ⟨some a', 0, 0, rfl, by rw [h0]; rfl, .inr (.inr ⟨a', rfl, rfl, rfl⟩)⟩
      · by_cases hne : (e.den η).toL = []
        · refine ⟨_, _, cap, rfl, rfl, .inr (.inl ⟨b, o, [], rfl, .inl (by rw [hne]; rfl), ?_⟩)⟩
          rw [hne]; intro i d hd; simp at hd
        · obtain ⟨cs, h3, h4⟩ := h2 hne
          obtain ⟨ty, fz, h5⟩ := hI.read h3
          exact ⟨_, _, cap, rfl, rfl, .inr (.inl ⟨b, o, cs, rfl, .inr ⟨ty, fz, h5⟩, h4⟩)⟩
    · cases h
  · exact absurd rfl (hs _)
  · cases h
theorem take_cells {b q : Nat} {cs : List Value} {n : Nat} (hh : n = 0 ∨ ∃ ty fz, w.heap[b]? = some (.cells ⟨cs⟩ ty fz)) (j : Nat) (u : Value) (h : ((cs.drop q).take n)[j]? = some u) : w.cell? ⟨b, q + j, none⟩ = some u := by
  rw [List.getElem?_take] at h
  split at h
  · rename_i hj
    rcases hh with rfl | ⟨ty, fz, hh⟩
    · omega
    · rw [cell_of_cells hh]
      rw [List.getElem?_drop] at h
      exact h
  · cases h
/-- Where elements to be appended come from. -/
theorem src_rel (hI : Inv Ω η B T' ρ m w) {et : ET} {t2 : TypeId} {y : SV} {g a : E} (h : heldBy m et y = some (g, a)) (hg : (g.den η).toB = true) (hok : srcOk P t2 y = true) {v : Value} (r : Rel η ρ y v) :
    ∃ news, Src P et.width t2 v (a.den η).toL.length news w ∧ EncA η.R et (a.den η).toL news := by
  by_cases hstr : ∃ e, y = .str e
  · obtain ⟨e, rfl⟩ := hstr
    simp only [heldBy] at h
    split at h
    · rename_i hc
      have e1 := ET.eqb_eq _ _ hc
      subst e1
      simp only [Option.some.injEq, Prod.mk.injEq] at h; obtain ⟨rfl, rfl⟩ := h
      simp only [Rel] at r; subst r
      have hk : P.underlying t2 = some .string := by
        unfold srcOk at hok
        split at hok
        · assumption
        · cases hok
        · rename_i _ h2; exact (h2 _ rfl).elim
        · cases hok
      have hl : ((mk1 .bytesOf e).den η).toL = bytesOfS (e.den η).toS := by rw [den_mk1]; rfl
      refine ⟨byteCells ⟨⟨(e.den η).toS⟩⟩, ?_, ?_⟩
      · rw [hl]
        have := Src.ofString (P := P) w hk ⟨⟨(e.den η).toS⟩⟩
        simpa [bytesOfS, ET.width, ET.cts, strSize] using this
      · rw [hl]
        intro i d hd
        simp only [bytesOfS, List.getElem?_map, Option.map_eq_some_iff] at hd
        obtain ⟨b, hb, rfl⟩ := hd
        have hb' := (List.getElem?_eq_some_iff.1 hb)
        obtain ⟨hlt, hbe⟩ := hb'
        simp only [EncE, EncC, ET.width, ET.cts, List.length_singleton, Nat.mul_one]
        refine ⟨.int .u8 (b.toNat : Int), ?_, _, rfl, rfl⟩
        apply List.ext_getElem?
        intro x
        rw [List.getElem?_take, List.getElem?_drop]
        cases x with
        | zero => simp [byteCells, hb]
        | succ x => simp
    · cases h
  · obtain ⟨base, l, cap, rfl, hl, hb⟩ := held_rel hI h hg (fun e he => hstr ⟨e, he⟩) r
    have hk : ∃ e', P.underlying t2 = some (.slice e') := by
      unfold srcOk at hok
      split at hok
      · exact absurd ⟨_, rfl⟩ hstr
      · cases hok
      · exact ⟨_, by assumption⟩
      · cases hok
    obtain ⟨e', hk⟩ := hk
    rcases hb with ⟨rfl, rfl⟩ | ⟨b, q, cs, rfl, hh, hE⟩ | ⟨a', rfl, rfl, _⟩
    · have : (a.den η).toL = [] := List.eq_nil_of_length_eq_zero hl
      rw [this]
      exact ⟨[], Src.ofNil w hk cap, by intro i d hd; simp at hd⟩
    rotate_left
    · have : (a.den η).toL = [] := List.eq_nil_of_length_eq_zero hl
      rw [this]
      exact ⟨[], Src.ofSlice w hk a' 0 cap [] (by simp) (by intro j u hu; simp at hu) (by intro u hu; cases hu), by intro i d hd; simp at hd⟩
    · subst hl
      have hlen := encA_len hE
      refine ⟨(cs.drop q).take ((a.den η).toL.length * et.width), Src.ofSlice w hk ⟨b, q, none⟩ _ cap _ ?_ ?_ ?_, ?_⟩
      · rw [List.length_take]; omega
      · intro j u hu
        rw [add_mk]
        refine take_cells (n := (a.den η).toL.length * et.width) ?_ j u hu
        rcases hh with h0 | h0
        · left; rw [h0]; simp
        · exact .inr h0
      · exact encA_one hE
      · intro i d hd
        have := hE i d hd
        have hi : i < (a.den η).toL.length := (List.getElem?_eq_some_iff.1 hd).1
        have hm := Nat.mul_le_mul_right et.width (show i + 1 ≤ (a.den η).toL.length from hi)
        rw [Nat.add_mul] at hm
        rw [List.drop_take, List.take_take]
        rw [Nat.min_eq_left (by omega)]
        exact this
theorem noFz (n : Nat) : ∀ i, i < n → ¬ ((0 : Nat) ≤ i ∧ i < 0) := by intro i _; omega
/-- The new row of an append. -/
theorem grow_inv (hI : Inv Ω η B T' ρ m w) {et : ET} {l : E} {as bs : List D} (hl : (l.den η).toL = as ++ bs) {olds news rest : List Value} (ho : EncA η.R et as olds) (hol : olds.length = as.length * et.width)
    (hn : EncA η.R et bs news) (hnl : news.length = bs.length * et.width) {N : Nat} (hN : as.length + bs.length ≤ N) (hr : rest.length = (N - (as.length + bs.length)) * et.width) (e : TypeId) :
    Inv Ω η B T' (ρ ++ [.arr w.heap.size 0 N]) (m ++ [.arr et l]) (w.drew.alloc (.cells ⟨olds ++ news ++ rest⟩ e)) := by
  have hI1 : Inv Ω η B T' ρ m w.drew := hI.drawn (w.drawn + 1)
  refine hI1.new (hd := .arr w.heap.size 0 N) ?_
  simp only [Chunk.holds]
  refine .inl ⟨w.heap.size, 0, N, olds ++ news ++ rest, e, (0, 0), rfl, ?_, ?_, ?_, ?_, ?_, ?_⟩
  · show (w.drew.heap.push _)[w.heap.size]? = _
    have : w.drew.heap = w.heap := rfl
    rw [this]; simp
  · intro i _; simp
  · rw [hl]; simpa using hN
  · simp only [Nat.zero_add, List.length_append]
    rw [hol, hnl, hr, ← Nat.add_mul, ← Nat.add_mul]
    apply Nat.mul_le_mul_right; omega
  · rw [hl, List.drop_zero]
    refine encA_join ho hn ?_ ?_
    · intro p hp
      rw [List.append_assoc, List.getElem?_append_left (by omega)]
    · intro p hp
      rw [List.append_assoc, List.getElem?_append_right (by omega), List.getElem?_append_left (by omega)]
      congr 1; omega
  · intro x; rfl

theorem append_rel {t t2 ty : TypeId} {x y : SV} {g : E} {v : SV} {m' : List Chunk} (hI : Inv Ω η B T' ρ m w) (h : appendSV P m t t2 x y = some (g, v, m')) (hg : (g.den η).toB = true) {vx vy : Value}
    (rx : Rel η ρ x vx) (ry : Rel η ρ y vy) : ∃ u ρ' w', (Builtin.append_ #[t, t2] ty #[vx, vy]).run P w = .ok u w' ∧ ρ <+: ρ' ∧ Inv Ω η B T' ρ' m' w' ∧ Rel η ρ' v u := by
  unfold appendSV at h
  split at h
  case h_2 => cases h
  rename_i elem ht
  split at h
  case h_2 => cases h
  rename_i et inf het hinf
  split at h
  case isFalse => cases h
  rename_i hc
  simp only [appendOk, Bool.and_eq_true] at hc
  obtain ⟨⟨⟨⟨⟨hsz, hby⟩, hz⟩, hsrc⟩, hch⟩, hx⟩ := hc
  have hsz := Nat.eq_of_beq_eq_true hsz
  have hby := Nat.le_of_ble_eq_true hby
  obtain ⟨z, hz1, hz2⟩ : ∃ z, inf.zero = some z ∧ z.cells.size = inf.size := by
    unfold zeroOk at hz
    split at hz
    · rename_i z hz1; exact ⟨z, hz1, Nat.eq_of_beq_eq_true hz⟩
    · cases hz
  split at h
  case h_2 => cases h
  rename_i g1 a g2 b ha hb
  simp only [Option.some.injEq, Prod.mk.injEq] at h
  obtain ⟨rfl, rfl, rfl⟩ := h
  obtain ⟨hg1, hg23⟩ := toB_and hg
  obtain ⟨hg2, hg3⟩ := toB_and hg23
  have hmost := le_of hg3
  have hlapp : ((mk2 .app a b).den η).toL = (a.den η).toL ++ (b.den η).toL := by rw [den_mk2]; rfl
  rw [den_lenL, hlapp] at hmost
  have hmost : (a.den η).toL.length + (b.den η).toL.length ≤ 1099511627776 := by
    simp only [most, eInt, E.den, toI_i, List.length_append] at hmost; omega
  obtain ⟨news, hS, hEb⟩ := src_rel hI hb hg2 hsrc ry
  have hxs : ∀ e, x ≠ .str e := by intro e he; subst he; simp [isDst] at hx
  obtain ⟨base, l, cap, rfl, hla, hbase⟩ := held_rel hI ha hg1 hxs rx
  have hbase : (base = none ∧ l = 0) ∨ ∃ b q cs, base = some ⟨b, q, none⟩ ∧ (l = 0 ∨ ∃ ty fz, w.heap[b]? = some (.cells ⟨cs⟩ ty fz)) ∧ EncA η.R et (a.den η).toL (cs.drop q) := by
    rcases hbase with h | h | ⟨_, _, _, h⟩
    · exact .inl h
    · exact .inr h
    · rw [hx] at h; cases h
  have hlen2 : ((mk1 .lenL (mk2 .app a b)).den η).toI = (((a.den η).toL.length + (b.den η).toL.length : Nat) : Int) := by
    rw [den_lenL, hlapp]; simp
  have hnlen := hS.newsLen
  rw [← hsz] at hS
  -- the chunk that goes
  have hkill : ∀ w1, Inv Ω η B T' ρ m w1 → Inv Ω η B T' ρ (kill m x) w1 := by
    intro w1 h1
    unfold kill
    split
    · exact h1.kill _
    · exact h1
  have hkl : (kill m x).length = m.length := by unfold kill; split <;> simp
  have hnn : ∀ q : Bool, q = (decide (0 < (b.den η).toL.length) || base.isSome) → ((nnOf x (mk1 .lenL b)).den η).toB = q := by
    intro q hq
    subst hq
    unfold nnOf
    have hgt : ((mk2 .gt (mk1 .lenL b) (eInt 0)).den η).toB = decide (0 < (b.den η).toL.length) := by
      rw [den_mk2]
      simp only [O2.den, toB_b, den_lenL, eInt, E.den, toI_i]
      by_cases h0 : 0 < (b.den η).toL.length
      · simp [h0]
      · simp [h0]
    cases x <;> simp only [isDst, Bool.false_eq_true] at hx
    · simp only [Rel] at rx
      injection rx with rx1 _ _; subst rx1
      rw [hgt]; simp
    · simp only [Rel] at rx
      rw [den_mkIteB, hgt]
      split at rx
      · rename_i hn
        obtain ⟨b', o, n, off', l', cap', _, rv, _⟩ := rx
        injection rv with rv1 _ _; subst rv1
        rw [if_pos hn]; simp [eTrue, E.den, toB_b]
      · rename_i hn
        obtain ⟨rv, _⟩ := rx
        injection rv with rv1 _ _; subst rv1
        rw [if_neg hn]; simp
  by_cases hroom : l + (b.den η).toL.length ≤ cap
  · -- in place
    rcases hbase with ⟨rfl, rfl⟩ | ⟨bb, q, cs, rfl, hh, hEa⟩
    · -- nil: nothing is appended
      have hcap0 : cap = 0 := by
        cases x <;> simp only [isDst, Bool.false_eq_true] at hx
        · simp only [Rel] at rx; injection rx
        · simp only [Rel] at rx
          split at rx
          · obtain ⟨_, _, _, _, _, _, _, rv, _⟩ := rx; injection rv with rv _ _; cases rv
          · obtain ⟨rv, _⟩ := rx; injection rv
      have hb0 : (b.den η).toL.length = 0 := by omega
      have hnil : (b.den η).toL = [] := List.eq_nil_of_length_eq_zero hb0
      have hnews : news = [] := List.eq_nil_of_length_eq_zero (by rw [hnlen, hb0]; simp)
      subst hnews
      rw [hb0] at hS
      refine ⟨_, ρ ++ [.none], w, run_append_nothing w t t2 ty elem inf ht hinf none 0 cap (by omega) vy hS, prefix_snoc _ _, ?_, ?_⟩
      · refine (hkill w hI).push (G := fun _ => False) rfl rfl rfl (Nat.le_refl _) (fun _ _ => rfl) ?_ (fun _ h => h.elim)
        simp only [Chunk.holds]
        exact .inr ⟨trivial, by rw [hlapp, hnil, List.eq_nil_of_length_eq_zero hla]; rfl, fun x h => h⟩
      · simp only [Rel]
        rw [if_neg (by rw [hnn false (by simp [hb0])]; simp)]
        exact ⟨by rw [hcap0], by rw [hlen2, hla, hb0]; rfl⟩
    · -- the array has room
      cases x <;> simp only [isDst, Bool.false_eq_true] at hx
      · simp only [Rel] at rx; injection rx with rx _ _; cases rx
      rename_i nn c k off len
      simp only [heldBy] at ha
      split at ha
      case h_2 => cases ha
      rename_i et' e hq
      split at ha
      case isFalse => cases ha
      rename_i hck
      rw [Bool.and_eq_true] at hck
      have e1 := ET.eqb_eq _ _ hck.1
      have e2 := Nat.eq_of_beq_eq_true hck.2
      subst e1 e2
      simp only [Rel] at rx
      split at rx
      case isFalse => obtain ⟨rv, _⟩ := rx; injection rv with rv _ _; cases rv
      rename_i hn
      obtain ⟨b', o, n, off', l', cap', r1, rv, r3, r4, r5, r6⟩ := rx
      injection rv with rv1 rv2 rv3
      subst rv2 rv3
      injection rv1 with rv1
      injection rv1 with rv1 rv4 _
      subst rv1 rv4
      obtain ⟨cs', ty', fz, p1, p2, p3, p4, p5⟩ := hI.arr hq r1
      -- the cells that held_rel spoke of are these, or there are none
      have hEa' : EncA η.R et (a.den η).toL (cs'.drop (o + off' * et.width)) := by
        rcases hh with h0 | ⟨ty2, fz2, h2⟩
        · have : (a.den η).toL = [] := List.eq_nil_of_length_eq_zero (by omega)
          rw [this]; intro i d hd; simp at hd
        · rw [p1] at h2; injection h2 with h2; injection h2 with h2 _ _; injection h2 with h2; subst h2
          exact hEa
      have hw1 : o + off' * et.width + l * et.width + news.length ≤ cs'.length := by
        rw [hnlen]
        have hm := Nat.mul_le_mul_right et.width (show off' + l + (b.den η).toL.length ≤ n by omega)
        rw [Nat.add_mul, Nat.add_mul] at hm
        omega
      have hcell : ∀ j, j < news.length → (w.cell? ⟨bb, o + off' * et.width + l * inf.size + j, none⟩).isSome = true := by
        intro j hj
        rw [cell_of_cells p1, hsz, List.getElem?_eq_getElem (by omega)]; rfl
      have hfr : ∀ j, j < news.length → w.frozen? ⟨bb, o + off' * et.width + l * inf.size + j, none⟩ = false := by
        intro j hj
        rw [hsz]
        exact frozen_of_cells p1 p2 _ (by omega)
      have hrun := run_append_room_src (P := P) w t t2 ty elem inf ht hinf bb (o + off' * et.width) l cap vy _ news hS hroom hcell hfr
      obtain ⟨s1, s2, s3, s4, s5, s6⟩ := heap_setCells bb ty' fz news (o + off' * et.width + l * et.width) cs' w p1
      rw [hsz] at hrun
      refine ⟨_, ρ ++ [.arr bb (o + off' * et.width) (n - off')], _, hrun, prefix_snoc _ _, ?_, ?_⟩
      · refine hI.move (arrOf_get hq) r1 (b := bb) ?_ ?_ s1 s2 s3 s4 s5
        · intro F hF
          simp only [Chunk.holds] at hF
          rcases hF with ⟨_, _, _, _, _, _, e1, _, _, _, _, _, e7⟩ | ⟨e1, _⟩
          · injection e1 with e1; subst e1; exact e7
          · cases e1
        · simp only [Chunk.holds]
          refine .inl ⟨bb, o + off' * et.width, n - off', _, ty', fz, rfl, s6, by rw [putAll_length]; exact p2, ?_, ?_, ?_, fun x => Iff.rfl⟩
          · rw [hlapp, List.length_append]; omega
          · rw [putAll_length, Nat.add_assoc, ← Nat.add_mul]
            rw [show off' + (n - off') = n by omega]; exact p4
          · rw [hlapp]
            have hlm : (a.den η).toL.length * et.width = l * et.width := by rw [hla]
            refine encA_join hEa' hEb ?_ ?_
            · intro p hp
              rw [List.getElem?_drop, List.getElem?_drop, putAll_get, if_neg (by omega)]
            · intro p hp
              rw [List.getElem?_drop, putAll_get, if_pos (by omega)]
              congr 1; omega
      · simp only [Rel]
        rw [if_pos (by rw [hnn true (by simp)])]
        refine ⟨bb, o + off' * et.width, n - off', 0, l + (b.den η).toL.length, cap, by rw [← hI.len]; simp, by simp, by rw [hlen2, hla], hroom, by omega, .inr (by simp [eInt, E.den, toI_i])⟩
  · -- a new row
    have hg' : cap < l + (b.den η).toL.length := by omega
    obtain ⟨olds, hold, hol, hEo⟩ : ∃ olds, (Builtin.firstCells inf.size l (.slice base l cap)).run P w.drew = .ok olds.toArray w.drew ∧ olds.length = (a.den η).toL.length * et.width ∧ EncA η.R et (a.den η).toL olds := by
      rcases hbase with ⟨rfl, rfl⟩ | ⟨bb, q, cs, rfl, hh, hEa⟩
      · refine ⟨[], by rw [run_firstCells_none], by rw [hla]; simp, ?_⟩
        have : (a.den η).toL = [] := List.eq_nil_of_length_eq_zero hla
        rw [this]; intro i d hd; simp at hd
      · subst hla
        have hlen := encA_len hEa
        refine ⟨(cs.drop q).take ((a.den η).toL.length * et.width), ?_, by rw [List.length_take]; omega, ?_⟩
        · refine run_firstCells_some w.drew inf.size _ ⟨bb, q, none⟩ _ cap _ (by rw [List.length_take, hsz]; omega) ?_
          intro j u hu
          rw [add_mk]
          have : w.drew.cell? ⟨bb, q + j, none⟩ = w.cell? ⟨bb, q + j, none⟩ := rfl
          rw [this]
          refine take_cells (n := (a.den η).toL.length * et.width) ?_ j u hu
          rcases hh with h0 | h0
          · left; rw [h0]; simp
          · exact .inr h0
        · intro i d hd
          have := hEa i d hd
          have hi : i < (a.den η).toL.length := (List.getElem?_eq_some_iff.1 hd).1
          have hm := Nat.mul_le_mul_right et.width (show i + 1 ≤ (a.den η).toL.length from hi)
          rw [Nat.add_mul] at hm
          rw [List.drop_take, List.take_take]
          rw [Nat.min_eq_left (by omega)]
          exact this
    have hfit : Builtin.nextslicecap (l + (b.den η).toL.length) cap * inf.bytes ≤ 281474976710656 := by
      refine growslice_fits_wide hg' ?_
      have h1 : l + (b.den η).toL.length + (l + (b.den η).toL.length) / 4 + 192 ≤ 1374389534912 := by omega
      calc (l + (b.den η).toL.length + (l + (b.den η).toL.length) / 4 + 192) * inf.bytes ≤ 1374389534912 * 200 := Nat.mul_le_mul h1 hby
        _ ≤ 281474976710656 := by decide
    have hrun := run_append_grow_src (P := P) w t t2 ty elem inf z ht hinf hz1 base l cap olds hold vy _ news hS hg' (by omega) hfit
    have hcapge := grownCap_ge w (l + (b.den η).toL.length) cap elem
    have hrest : (Builtin.zeroCells z.cells (grownCap w (l + (b.den η).toL.length) cap elem - (l + (b.den η).toL.length))).toList.length = (grownCap w (l + (b.den η).toL.length) cap elem - ((a.den η).toL.length + (b.den η).toL.length)) * et.width := by
      simp only [Builtin.zeroCells, Array.length_toList, Array.size_map, Array.size_range, hz2, hsz, hla]
    have harr : ((olds ++ news).toArray ++ Builtin.zeroCells z.cells (grownCap w (l + (b.den η).toL.length) cap elem - (l + (b.den η).toL.length))) = ⟨olds ++ news ++ (Builtin.zeroCells z.cells (grownCap w (l + (b.den η).toL.length) cap elem - (l + (b.den η).toL.length))).toList⟩ := by
      apply Array.ext'; simp
    rw [harr] at hrun
    refine ⟨_, ρ ++ [.arr w.heap.size 0 (grownCap w (l + (b.den η).toL.length) cap elem)], _, hrun, prefix_snoc _ _, ?_, ?_⟩
    · exact grow_inv (hkill w hI) hlapp hEo hol hEb hnlen (by rw [hla]; exact hcapge) hrest elem
    · simp only [Rel]
      have hpos : 0 < (b.den η).toL.length ∨ base.isSome = true := by
        rcases Nat.eq_zero_or_pos (b.den η).toL.length with h0 | h0
        · right
          rcases hbase with ⟨rfl, rfl⟩ | ⟨bb, q, cs, rfl, _, _⟩
          · omega
          · rfl
        · exact .inl h0
      rw [if_pos (by rw [hnn true (by rcases hpos with h0 | h0 <;> simp [h0])])]
      refine ⟨w.heap.size, 0, grownCap w (l + (b.den η).toL.length) cap elem, 0, l + (b.den η).toL.length, grownCap w (l + (b.den η).toL.length) cap elem, by rw [← hI.len]; simp, by simp, by rw [hlen2, hla], hcapge, by omega, .inr (by simp [eInt, E.den, toI_i])⟩
end
end Go.Sy
