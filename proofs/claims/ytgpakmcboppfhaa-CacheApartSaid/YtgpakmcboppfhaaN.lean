/- Maps in memory as lists of pairs: update, lookup, delete and len, over any program. -/
import Derived.Test.YtgpakmcboppfhaaM
import Derived.MapKept
namespace Go.Proofs.Ytgpakmcboppfhaa
set_option linter.unusedVariables false
set_option linter.unusedSimpArgs false
open Go.RowKit

section
variable {κ : Type}

/-- Block b is a map that holds the pairs D. -/
def MapAt (w : World) (b : Nat) (enc : κ → Value) (D : List (κ × Value)) : Prop :=
  ∃ es clock, w.heap[b]? = some (.map es clock) ∧ es.toList.map (fun e => (e.key, e.val)) = D.map (fun p => (enc p.1, p.2))

theorem MapAt.lt {w : World} {b : Nat} {enc : κ → Value} {D : List (κ × Value)} (h : MapAt w b enc D) : b < w.heap.size := by
  obtain ⟨es, c, h, _⟩ := h
  exact (Array.getElem?_eq_some_iff.1 h).1
theorem MapAt.congr {w w' : World} {b : Nat} {enc : κ → Value} {D : List (κ × Value)} (h : MapAt w b enc D) (e : w'.heap[b]? = w.heap[b]?) : MapAt w' b enc D := by
  obtain ⟨es, c, h, r⟩ := h
  exact ⟨es, c, e.trans h, r⟩
theorem MapAt.below {w w' : World} {b : Nat} {enc : κ → Value} {D : List (κ × Value)} (h : MapAt w b enc D) (hb : Below w.heap.size w w') : MapAt w' b enc D := h.congr (hb.block b h.lt)
theorem MapAt.made (w : World) (enc : κ → Value) : MapAt (w.alloc (.map #[] 0)) w.heap.size enc [] := ⟨#[], 0, heap_alloc_new w _, rfl⟩

/-- 'len(m)'. -/
theorem MapAt.len {P : Program} {w : World} {b : Nat} {enc : κ → Value} {D : List (κ × Value)} {kt t et : TypeId} (h : MapAt w b enc D) (ht : P.underlying t = some (.map kt et)) (ty : TypeId) : (Builtin.len_ #[t] ty #[.map (some b)]).run P w = .ok (.int .i64 D.length) w := by
  obtain ⟨es, clock, hb, he⟩ := h
  have hg : (getObj b).run P w = .ok (.map es clock) w := by simp [getObj, Sem.run, hb]
  have hl : es.size = D.length := by have := congrArg List.length he; simpa using this
  simp [Builtin.len_, run_underlying ht, hg, hl, goInt]

variable [DecidableEq κ]

def aget : List (κ × Value) → κ → Option Value
  | [], _ => none
  | p :: D, k => if p.1 = k then some p.2 else aget D k
def aput : List (κ × Value) → κ → Value → List (κ × Value)
  | [], k, v => [(k, v)]
  | p :: D, k, v => if p.1 = k then (p.1, v) :: D else p :: aput D k v
def adel : List (κ × Value) → κ → List (κ × Value)
  | [], _ => []
  | p :: D, k => if p.1 = k then D else p :: adel D k

/-- The keys of a map's type kt are given by enc. -/
structure MKey (P : Program) (kt : TypeId) (enc : κ → Value) : Prop where
  desc : ∃ d, P.underlying kt = some d ∧ ∀ a b, Instr.sameNow d (enc a) (enc b) = some (decide (a = b))
  bits : ∀ a, Instr.sameBits 10000 (enc a) (enc a) = true
  check : ∀ (w : World) (b : Bool) (a : κ), (Instr.checkKey b 10000 kt (enc a)).run P w = .ok () w

theorem findNow_pairs {d : TypeDesc} {enc : κ → Value} (hd : ∀ a b, Instr.sameNow d (enc a) (enc b) = some (decide (a = b))) (k : κ) : ∀ (es : List MapEntry) (D : List (κ × Value)) (i : Nat), es.map (fun e => (e.key, e.val)) = D.map (fun p => (enc p.1, p.2)) →
    (aget D k = none ∧ Instr.findNow d (enc k) es i = some none ∧ (∀ p ∈ D, p.1 ≠ k)) ∨ ∃ j e, es[j]? = some e ∧ e.key = enc k ∧ aget D k = some e.val ∧ Instr.findNow d (enc k) es i = some (some (i + j, e.val)) ∧ D[j]?.map (·.1) = some k ∧
      (∀ v, aput D k v = D.set j (k, v)) ∧ adel D k = D.eraseIdx j
  | [], D, i, h => by
    cases D with
    | nil => exact .inl ⟨rfl, rfl, by simp⟩
    | cons p D => simp at h
  | e :: es, [], i, h => by simp at h
  | e :: es, p :: D, i, h => by
    simp only [List.map_cons, List.cons.injEq, Prod.mk.injEq] at h
    obtain ⟨⟨h1, h2⟩, h3⟩ := h
    by_cases hk : p.1 = k
    · right
      refine ⟨0, e, rfl, by rw [h1, hk], by unfold aget; rw [if_pos hk, h2], ?_, by simp [hk], fun v => by unfold aput; rw [if_pos hk, hk]; rfl, by unfold adel; rw [if_pos hk]; rfl⟩
      unfold Instr.findNow
      rw [h1, hd k p.1, hk]
      simp
    · have hk' : ¬ k = p.1 := fun e => hk e.symm
      rcases findNow_pairs hd k es D (i + 1) h3 with ⟨a, b, c⟩ | ⟨j, e', a1, a2, a3, a4, a5, a6, a7⟩
      · left
        refine ⟨by unfold aget; rw [if_neg hk]; exact a, ?_, ?_⟩
        · unfold Instr.findNow
          rw [h1, hd k p.1, decide_eq_false hk']
          exact b
        · intro q hq
          rcases List.mem_cons.1 hq with rfl | hq
          · exact hk
          · exact c q hq
      · right
        refine ⟨j + 1, e', by simpa using a1, a2, by unfold aget; rw [if_neg hk]; exact a3, ?_, by simpa using a5, fun v => by unfold aput; rw [if_neg hk, a6 v]; rfl, by unfold adel; rw [if_neg hk, a7]; rfl⟩
        unfold Instr.findNow
        rw [h1, hd k p.1, decide_eq_false hk']
        show Instr.findNow d (enc k) es (i + 1) = _
        rw [a4]
        simp; omega

section
variable {P : Program} {w : World} {b : Nat} {enc : κ → Value} {D : List (κ × Value)} {kt : TypeId}

theorem run_findKey_pairs (K : MKey P kt enc) (es : List MapEntry) (h : es.map (fun e => (e.key, e.val)) = D.map (fun p => (enc p.1, p.2))) (k : κ) :
    (aget D k = none ∧ (Instr.findKey kt (enc k) es).run P w = .ok none w ∧ (∀ p ∈ D, p.1 ≠ k)) ∨ ∃ j e, es[j]? = some e ∧ e.key = enc k ∧ aget D k = some e.val ∧ (Instr.findKey kt (enc k) es).run P w = .ok (some (j, e.val)) w ∧ D[j]?.map (·.1) = some k ∧
      (∀ v, aput D k v = D.set j (k, v)) ∧ adel D k = D.eraseIdx j := by
  obtain ⟨d, hd, hs⟩ := K.desc
  rcases findNow_pairs hs k es D 0 h with ⟨a, b, c⟩ | ⟨j, e, a1, a2, a3, a4, a5, a6, a7⟩
  · exact .inl ⟨a, MapKept.run_findKey hd b, c⟩
  · refine .inr ⟨j, e, a1, a2, a3, ?_, a5, a6, a7⟩
    have := MapKept.run_findKey (w := w) hd a4
    rwa [Nat.zero_add] at this

theorem aput_new {k : κ} : ∀ {D : List (κ × Value)}, (∀ p ∈ D, p.1 ≠ k) → ∀ v, aput D k v = D ++ [(k, v)]
  | [], _, v => rfl
  | p :: D, h, v => by
    unfold aput
    rw [if_neg (h p (by simp)), aput_new (fun q hq => h q (by simp [hq])) v]; rfl
theorem adel_none {k : κ} : ∀ {D : List (κ × Value)}, (∀ p ∈ D, p.1 ≠ k) → adel D k = D
  | [], _ => rfl
  | p :: D, h => by
    unfold adel
    rw [if_neg (h p (by simp)), adel_none (fun q hq => h q (by simp [hq]))]

/-- 'm[k] = v'. -/
theorem MapAt.update {t et : TypeId} (h : MapAt w b enc D) (K : MKey P kt enc) (ht : P.underlying t = some (.map kt et)) (k : κ) (v : Value) :
    ∃ w', (Instr.mapUpdate t (.map (some b)) (enc k) v).run P w = .ok () w' ∧ MapAt w' b enc (aput D k v) ∧ Chg (fun i => i = b) w w' ∧ w'.heap.size = w.heap.size := by
  obtain ⟨es, clock, hb, he⟩ := h
  have hg : (getObj b).run P w = .ok (.map es clock) w := by simp [getObj, Sem.run, hb]
  have hlt : b < w.heap.size := (Array.getElem?_eq_some_iff.1 hb).1
  have hso : ∀ o : Obj, (setObj b o).run P w = .ok () { w with heap := w.heap.setIfInBounds b o } := fun o => by simp only [setObj, Sem.run, hb]
  have hch : ∀ o : Obj, Chg (fun i => i = b) w { w with heap := w.heap.setIfInBounds b o } := fun o =>
    ⟨rfl, rfl, rfl, by simp, fun i hi hn => by simp [Array.getElem?_setIfInBounds, Ne.symm hn]⟩
  rcases run_findKey_pairs (w := w) K es.toList he k with ⟨a, c, d⟩ | ⟨j, e, a1, a2, a3, a4, a5, a6, _⟩
  · refine ⟨{ w with heap := w.heap.setIfInBounds b (.map (es.push { key := enc k, val := v, born := clock }) (clock + 1)) }, ?_, ⟨_, _, by simp [hlt]; exact ⟨rfl, rfl⟩, ?_⟩, hch _, by simp⟩
    · simp [Instr.mapUpdate, run_underlying ht, hg, K.check, c, hso]
    · rw [aput_new d]
      simp [he]
  · refine ⟨{ w with heap := w.heap.setIfInBounds b (.map (es.modify j fun x => { x with key := enc k, val := v }) clock) }, ?_, ⟨_, _, by simp [hlt]; exact ⟨rfl, rfl⟩, ?_⟩, hch _, by simp⟩
    · have a1' : es[j]? = some e := by rw [← a1]; simp
      have hst : (Instr.keyThatStays e.key (enc k)).run P w = .ok (enc k) w := by
        unfold Instr.keyThatStays
        rw [a2, K.bits, if_pos rfl]; rfl
      simp [Instr.mapUpdate, run_underlying ht, hg, K.check, a4, a1', hst, hso]
    · rw [a6 v]
      have hj : j < es.toList.length := (List.getElem?_eq_some_iff.1 a1).1
      rw [Array.toList_modify, List.map_set, ← he]
      apply List.ext_getElem?
      intro i
      rw [List.getElem?_map, List.getElem?_modify, List.getElem?_set, List.getElem?_map]
      by_cases hij : j = i
      · subst hij
        rw [if_pos rfl, if_pos (by simpa using hj), a1]; simp
      · rw [if_neg hij]
        cases es.toList[i]? <;> simp [hij]

/-- 'm[k]' and 'v, ok := m[k]'. -/
theorem MapAt.lookup {t et : TypeId} (h : MapAt w b enc D) (K : MKey P kt enc) (ht : P.underlying t = some (.map kt et)) (z : Value) (hz : (zeroValue et).run P w = .ok z w) (k : κ) (commaOk : Bool) :
    (Instr.lookup t (.map (some b)) (enc k) commaOk).run P w = .ok (if commaOk then .tuple #[(aget D k).getD z, .bool (aget D k).isSome] else (aget D k).getD z) w := by
  obtain ⟨es, clock, hb, he⟩ := h
  have hg : (getObj b).run P w = .ok (.map es clock) w := by simp [getObj, Sem.run, hb]
  rcases run_findKey_pairs (w := w) K es.toList he k with ⟨a, c, d⟩ | ⟨j, e, a1, a2, a3, a4, a5, a6, _⟩
  · simp [Instr.lookup, run_underlying ht, hg, K.check, c, hz, a]
  · simp [Instr.lookup, run_underlying ht, hg, K.check, a4, a3]

/-- 'delete(m, k)'. -/
theorem MapAt.delete {t et : TypeId} (h : MapAt w b enc D) (K : MKey P kt enc) (ht : P.underlying t = some (.map kt et)) (k : κ) (ty : TypeId) :
    ∃ w', (Builtin.delete_ #[t, kt] ty #[.map (some b), enc k]).run P w = .ok (.tuple #[]) w' ∧ MapAt w' b enc (adel D k) ∧ Chg (fun i => i = b) w w' ∧ w'.heap.size = w.heap.size := by
  obtain ⟨es, clock, hb, he⟩ := h
  have hg : (getObj b).run P w = .ok (.map es clock) w := by simp [getObj, Sem.run, hb]
  have hlt : b < w.heap.size := (Array.getElem?_eq_some_iff.1 hb).1
  have hso : ∀ o : Obj, (setObj b o).run P w = .ok () { w with heap := w.heap.setIfInBounds b o } := fun o => by simp only [setObj, Sem.run, hb]
  have hch : ∀ o : Obj, Chg (fun i => i = b) w { w with heap := w.heap.setIfInBounds b o } := fun o =>
    ⟨rfl, rfl, rfl, by simp, fun i hi hn => by simp [Array.getElem?_setIfInBounds, Ne.symm hn]⟩
  rcases run_findKey_pairs (w := w) K es.toList he k with ⟨a, c, d⟩ | ⟨j, e, a1, a2, a3, a4, a5, a6, a7⟩
  · refine ⟨{ w with heap := w.heap.setIfInBounds b (.map es clock) }, ?_, ⟨_, _, by simp [hlt]; exact ⟨rfl, rfl⟩, ?_⟩, hch _, by simp⟩
    · simp [Builtin.delete_, run_underlying ht, hg, K.check, c, hso]
    · rw [adel_none d]; exact he
  · refine ⟨{ w with heap := w.heap.setIfInBounds b (.map (es.eraseIdxIfInBounds j) clock) }, ?_, ⟨_, _, by simp [hlt]; exact ⟨rfl, rfl⟩, ?_⟩, hch _, by simp⟩
    · simp [Builtin.delete_, run_underlying ht, hg, K.check, a4, hso]
    · rw [a7]
      have hj : j < es.size := by have := (List.getElem?_eq_some_iff.1 a1).1; simpa using this
      rw [Array.eraseIdxIfInBounds, dif_pos hj, Array.toList_eraseIdx]
      apply List.ext_getElem?
      intro i
      rw [List.getElem?_map, List.getElem?_map, List.getElem?_eraseIdx, List.getElem?_eraseIdx]
      have hq : ∀ i : Nat, (es.toList[i]?).map (fun e => (e.key, e.val)) = (D[i]?).map (fun p => (enc p.1, p.2)) := fun i => by
        rw [← List.getElem?_map, ← List.getElem?_map, he]
      split
      · exact hq i
      · exact hq (i + 1)
end
end

/-! ### keys that are ints, strings, bytes -/
theorem beq_dec (a b : Int) : (a == b) = decide (a = b) := by
  by_cases h : a = b
  · rw [decide_eq_true h]; exact beq_iff_eq.2 h
  · rw [decide_eq_false h]; exact beq_eq_false_iff_ne.2 h
theorem bytes_dec (a b : ByteArray) : (a == b) = decide (a = b) := by
  by_cases h : a = b
  · rw [decide_eq_true h]; exact (MapKept.bytes_beq a b).2 h
  · rw [decide_eq_false h]; exact Bool.eq_false_iff.2 (fun hh => h ((MapKept.bytes_beq a b).1 hh))
theorem mkey_int {P : Program} {kt : TypeId} {q : IntKind} (hk : P.underlying kt = some (.int q)) : MKey P kt (fun n : Int => Value.int q n) :=
  ⟨⟨_, hk, fun a b => by show (if q = q then some (a == b) else none) = _; rw [if_pos rfl, beq_dec]⟩, fun a => by simp [Instr.sameBits], fun w b a => MapKept.run_checkKey hk (by simp [MapKept.IsKey]) b 9999⟩
theorem mkey_string {P : Program} {kt : TypeId} (hk : P.underlying kt = some .string) : MKey P kt (fun s : ByteArray => Value.string s) :=
  ⟨⟨_, hk, fun a b => by show some (a == b) = _; rw [bytes_dec]⟩, fun a => by unfold Instr.sameBits; exact (MapKept.bytes_beq a a).2 rfl, fun w b a => MapKept.run_checkKey hk (by simp [MapKept.IsKey]) b 9999⟩

end Go.Proofs.Ytgpakmcboppfhaa
