/- The row of CacheApart: whatever the input, the law returns true and each argument reads as it did. -/
import Derived.Test.YtgpakmcboppfhaaRows
import Derived.Test.YtgpakmcboppfhaaLawApartWalk
import Derived.WalkKit
import Derived.ProofKit
import Derived.OpenShut
import Derived.ChangeOld
import Derived.Below
import Derived.SizedLaws
import Derived.Lib.SmallJoins
import Derived.ChangeSlices
namespace Go.Proofs.Ytgpakmcboppfhaa.cacheApart
open Go.ChangeShapes Go.WideShapes Go.ChangeAt Go.RowKit Go.Joins
set_option linter.unusedVariables false
set_option linter.unusedSimpArgs false
theorem own : ownKnob Try.prog.godebug = none := by kernel_rfl
theorem laidOut : laidOutB Try.prog = true := by kernel_rfl
theorem cells23 : Try.prog.cellsOf 23 = 3 := by kernel_rfl
theorem sized_ints {H : Type} {enc : TypeId × Value → H} {P : Program} {W : World} {base : Nat} {spare : Nat → Bool} {held : Bool} {t e : TypeId} {k : IntKind} {a : Option Addr} {len cap : Nat} {d : DataW H} {ps : List MemPlace} {ts : List TypeId} {ds : List (DataW H)} {j : Nat}
    (hsz : (DataW.weightsEach P ts ds).all (· ≤ reachBytes) = true) (ht : ts[j]? = some t) (hd : ds[j]? = some d) (hu : P.underlying t = some (.slice e)) (he : P.underlying e = some (.int k)) (hc : P.cellsOf e = 1) {B : Nat} (hB : P.bytesOf e = B)
    (h : DataW.Trod enc P W base spare held t (.slice a len cap) d ps) : len * B ≤ 140737488351232 := by
  obtain ⟨fuel, hf⟩ := h
  rcases open_ints hu he hc hf with ⟨hcs, _⟩ | ⟨x, l, c, zs, hcs, _, hl, _, hz, hx, _, _⟩
  · simp [Value.cells] at hcs
    obtain ⟨rfl, rfl, rfl⟩ := hcs
    simp
  · simp [Value.cells] at hcs
    obtain ⟨rfl, rfl, rfl⟩ := hcs
    obtain ⟨hx, _⟩ := Prod.mk.inj hx
    subst hx
    have z := sized_slice hsz ht hd hu
    rw [hB] at z
    have hl2 : len ≤ zs.length := by
      rw [hz]
      split
      · exact hl
      · exact Nat.le_refl _
    have h1 : (lits (H := H) k (zs.take len)).length + (lits (H := H) k (zs.drop len)).length = zs.length := by
      simp [lits]
      omega
    rw [h1] at z
    exact Nat.le_trans (Nat.mul_le_mul_right _ hl2) z
/-- What the walk is told of a slice of whole numbers. -/
theorem row_of {k : IntKind} {W : World} {a : Option Addr} {len cap : Nat} {zs : List Int} (hl : len ≤ zs.length) (hc : ∀ x, a = some x → ∀ i, i < zs.length → W.cell? (x.add i) = some (.int k (zs.getD i 0))) (hn : a = none → zs = []) :
    ∃ l : List Int, l.length = len ∧ (∀ n ∈ l, n ∈ zs) ∧ (l = [] ∨ ∃ b off, a = some ⟨b, off, none⟩ ∧ b < W.heap.size ∧ ∀ i, i < l.length → W.cell? ⟨b, off + i, none⟩ = some (.int k (l.getD i 0))) := by
  refine ⟨zs.take len, by rw [List.length_take]; omega, fun n h => List.mem_of_mem_take h, ?_⟩
  by_cases h0 : zs.take len = []
  · exact .inl h0
  · right
    have hp : 0 < (zs.take len).length := List.length_pos_iff.2 h0
    rw [List.length_take] at hp
    cases a with
    | none => rw [hn rfl] at hp; simp at hp
    | some x =>
      obtain ⟨b, off, rfl, hcc⟩ := ints_at (hc x rfl) (by omega)
      refine ⟨b, off, rfl, World.block_lt_of_cell? W _ (hcc 0 (by omega)), fun i hi => ?_⟩
      rw [List.length_take] at hi
      rw [hcc i (by omega)]
      simp [List.getElem?_take, show i < len by omega]
set_option maxRecDepth 100000 in
theorem lifted (os : Os) (started : os.Started) (H : Type) (enc : TypeId × Value → H) :
    ReturnsInHanded {} Try.checked os 10 .any (Rows.cacheApartSpec.pre6 enc Try.prog Try.f10 Rows.cacheApartRow.domain false) (Rows.cacheApartSpec.post enc Try.prog Try.f10 false true false false) := by
  refine returnsInHanded_of_change_sized (C := Try.checked) own started (by kernel_rfl) Try.func10
    (ChangeSpec.witness6 (enc := enc) (C := Try.checked) false ⟨#[], #[.agg #[.int .i64 0, .int .i64 0, .int .i64 0], .slice none 0 0, .int .i64 0], []⟩ 8 (by kernel_rfl) (by kernel_rfl) (by kernel_rfl) (by kernel_rfl)) ?_
  intro W base args ds gs before hval0 hW hcnd hsz0 _
  have hsz : (DataW.weightsEach Try.prog (Try.f10.params.toList ++ Rows.cacheApartSpec.plain.varTypes Try.prog) (ds ++ gs)).all (· ≤ reachBytes) = true := hsz0
  have hval : ∀ (j : Nat) t v, Try.f10.params[j]? = some t → args[j]? = some v → Value.okWide Try.prog W .any base t v := hval0
  have hW' := hW
  obtain ⟨p, q, hA0, hV, rfl, hfz, hnd⟩ := hW
  have hA : DataW.TrodAll enc Try.prog W 0 (fun _ => true) true Try.f10.params.toList args.toList ds p := hA0
  rw [Try.params10] at hA hval hsz
  obtain ⟨v0, vs0, d0, ds0, p0, q0, hargs, rfl, rfl, h0, r0⟩ := trodAll_cons hA
  obtain ⟨v1, vs1, d1, ds1, p1, q1, rfl, rfl, rfl, h1, r1⟩ := trodAll_cons r0
  obtain ⟨v2, vs2, d2, ds2, p2, q2, rfl, rfl, rfl, h2, r2⟩ := trodAll_cons r1
  obtain ⟨rfl, rfl, rfl⟩ := trodAll_nil r2
  obtain rfl : args = #[v0, v1, v2] := by cases args; simp_all
  obtain ⟨rfl, rfl⟩ := trodVars_none hV
  have k0 := h0
  have lt0 : ∀ x ∈ p0, x.block < W.heap.size := by obtain ⟨m, hm⟩ := k0; exact DataW.trod_lt m _ _ _ hm
  obtain ⟨c0, c1, c2, y0, y1, y2, m0, rfl, hd0, hp0, hy0, hy1, hy2⟩ := open_agg3 Try.underlying23 (by kernel_rfl) cells23 (hval 0 23 v0 rfl rfl) h0
  obtain ⟨S, e0, -, wS⟩ := DataW.trod_int Try.underlying3 hy0
  obtain ⟨W_, e1, -, wW_⟩ := DataW.trod_int Try.underlying3 hy1
  obtain ⟨L, e2, -, wL⟩ := DataW.trod_int Try.underlying3 hy2
  simp at e0 e1 e2
  subst e0 e1 e2
  have k1 := h1
  have lt1 : ∀ x ∈ p1, x.block < W.heap.size := by obtain ⟨m, hm⟩ := k1; exact DataW.trod_lt m _ _ _ hm
  obtain ⟨a1, len1, cap1, rfl⟩ := okWide_slice Try.underlying32 (hval 1 32 v1 rfl rfl)
  have y1 : len1 * 8 ≤ 140737488351232 := sized_ints hsz (j := 1) (t := 32) rfl rfl Try.underlying32 Try.underlying3 (by kernel_rfl) (by kernel_rfl) h1
  obtain ⟨l1, hl1, hwf1, hrow1⟩ : ∃ l : List Int, l.length = len1 ∧ (∀ n ∈ l, (Lit.int .i64 n).wf = true) ∧ (l = [] ∨ ∃ b off, a1 = some ⟨b, off, none⟩ ∧ b < W.heap.size ∧ ∀ i, i < l.length → W.cell? ⟨b, off + i, none⟩ = some (.int .i64 (l.getD i 0))) := by
    obtain ⟨fuel, hf⟩ := h1
    rcases open_ints Try.underlying32 Try.underlying3 (by kernel_rfl) hf with ⟨hcs, _⟩ | ⟨x, l, c, zs, hcs, _, hl, hm, hz, _, hcell, hwz⟩
    · simp [Value.cells] at hcs
      obtain ⟨rfl, rfl, rfl⟩ := hcs
      exact ⟨[], rfl, by simp, .inl rfl⟩
    · simp [Value.cells] at hcs
      obtain ⟨rfl, rfl, rfl⟩ := hcs
      have hle : len1 ≤ zs.length := by rw [hz]; split; exact hl; exact Nat.le_refl _
      obtain ⟨l, e1, e2, e3⟩ := row_of (a := some x) (cap := cap1) hle (fun y hy => by cases hy; exact hcell) (by simp)
      exact ⟨l, e1, fun n hn => hwz n (e2 n hn), e3⟩
  subst hl1
  have k2 := h2
  have lt2 : ∀ x ∈ p2, x.block < W.heap.size := by obtain ⟨m, hm⟩ := k2; exact DataW.trod_lt m _ _ _ hm
  obtain ⟨a2, rfl, -, -, w2⟩ := open_int Try.underlying3 (hval 2 3 v2 rfl rfl) h2
  clear hA0 hval0 hsz0 hsz
  refine (apart_row S W_ L a1 cap1 l1 a2 W hrow1 y1 (fun x hx => bounds_i64 (hwf1 x hx)) (bounds_i64 w2)).mono fun e W' ⟨he, bel⟩ => ?_
  subst he
  exact ⟨_, rfl, _, _, _, [], _, [], hW', trodAll_mk1 (shut_bool Try.underlying4 _), (trodAll_cons_mk (Below.trod laidOut (by kernel_rfl) (of_decide_eq_true (by kernel_rfl)) k0 bel lt0) (trodAll_cons_mk (Below.trod laidOut (by kernel_rfl) (of_decide_eq_true (by kernel_rfl)) k1 bel lt1) (trodAll_cons_mk (Below.trod laidOut (by kernel_rfl) (of_decide_eq_true (by kernel_rfl)) k2 bel lt2) trodAll_mk0))), rfl, bel.frame _, fun h => by cases h⟩
theorem over : Rows.cacheApartRow.holds Try.pinned (OpenSpec.ofChange Rows.cacheApartSpec) :=
  OpenClaim.holds_of_wide 10 Try.f10 rfl rfl rfl rfl rfl rfl rfl ⟨rfl, rfl, rfl, rfl, rfl⟩ rfl rfl rfl rfl rfl (by kernel_rfl) Try.func10 (by kernel_rfl)
    (of_decide_eq_true (by kernel_rfl)) (by unfold Func.isWrapper; first | (rw [if_pos (by decide +kernel)]; kernel_rfl) | (rw [if_neg (by decide +kernel)]; exact ⟨rfl, rfl⟩))
    (fun os started H enc _ => lifted os started H enc)
end Go.Proofs.Ytgpakmcboppfhaa.cacheApart
namespace Go.Proofs.Ytgpakmcboppfhaa
theorem cacheApart_holds : Rows.CacheApartSaid := cacheApart.over
#print axioms cacheApart_holds
end Go.Proofs.Ytgpakmcboppfhaa
