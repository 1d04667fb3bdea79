/- A cache in memory; Age, Probe, Access on it. -/
import Derived.Test.YtgpakmcboppfhaaA
import Derived.Test.YtgpakmcboppfhaaL
import Derived.Deep.RegionHeld3
import Derived.RegionTactic
import Derived.BigRegion
import Derived.BigQuiet
import Derived.Deep.QuietTactic
import Derived.Deep.DeepCutAuto
namespace Go.Proofs.Ytgpakmcboppfhaa
set_option linter.unusedVariables false
set_option linter.unusedSimpArgs false
open Go.RowKit

/-- The cache at block pb: its geometry, its table of sets in block sb, the sets' slices vs with the elements xss. -/
structure CacheIn (w : World) (pb sb : Nat) (S W L : Int) (vs : List Value) (xss : List (List Int)) : Prop where
  head : w.heap[pb]? = some (.cells #[.int .i64 S, .int .i64 W, .int .i64 L, .slice (some ⟨sb, 0, none⟩) vs.length vs.length] 52 (0, 0))
  table : w.heap[sb]? = some (.cells vs.toArray 32 (0, 0))
  count : (vs.length : Int) = S
  same : xss.length = vs.length
  apart : pb ≠ sb
  sets : ∀ (i : Nat) (v : Value) (xs : List Int), vs[i]? = some v → xss[i]? = some xs → SetV w v xs
  far : ∀ (i : Nat) (v : Value) (k : Nat), vs[i]? = some v → own v k → k ≠ pb ∧ k ≠ sb
  lone : ∀ (i j : Nat) (v u : Value) (k : Nat), vs[i]? = some v → vs[j]? = some u → own v k → own u k → i = j

/-- Between two calls: an empty set is nil, and no set has more lines than ways. -/
def Tidy (W : Int) (vs : List Value) (xss : List (List Int)) : Prop :=
  ∀ (i : Nat) (v : Value) (xs : List Int), vs[i]? = some v → xss[i]? = some xs → (xs = [] → v = .slice none 0 0) ∧ (xs.length : Int) ≤ W

def foot (pb sb : Nat) (vs : List Value) (k : Nat) : Prop := k = pb ∨ k = sb ∨ ∃ (i : Nat) (v : Value), vs[i]? = some v ∧ own v k

section
variable {w : World} {pb sb : Nat} {S W L : Int} {vs : List Value} {xss : List (List Int)}
theorem CacheIn.p0 (h : CacheIn w pb sb S W L vs xss) : w.cell? ⟨pb, 0, none⟩ = some (.int .i64 S) := by simp [World.cell?, h.head]
theorem CacheIn.p1 (h : CacheIn w pb sb S W L vs xss) : w.cell? ⟨pb, 1, none⟩ = some (.int .i64 W) := by simp [World.cell?, h.head]
theorem CacheIn.p2 (h : CacheIn w pb sb S W L vs xss) : w.cell? ⟨pb, 2, none⟩ = some (.int .i64 L) := by simp [World.cell?, h.head]
theorem CacheIn.p3 (h : CacheIn w pb sb S W L vs xss) : w.cell? ⟨pb, 3, none⟩ = some (.slice (some ⟨sb, 0, none⟩) vs.length vs.length) := by simp [World.cell?, h.head]
theorem CacheIn.pf (h : CacheIn w pb sb S W L vs xss) (j : Nat) : w.frozen? ⟨pb, j, none⟩ = false := by simp [World.frozen?, h.head]
theorem CacheIn.at (h : CacheIn w pb sb S W L vs xss) {i : Nat} {v : Value} (hi : vs[i]? = some v) : w.cell? ⟨sb, i, none⟩ = some v := by simp [World.cell?, h.table, hi]
theorem CacheIn.sf (h : CacheIn w pb sb S W L vs xss) (j : Nat) : w.frozen? ⟨sb, j, none⟩ = false := by simp [World.frozen?, h.table]
theorem CacheIn.foot_lt (h : CacheIn w pb sb S W L vs xss) : ∀ k, foot pb sb vs k → k < w.heap.size := by
  intro k hk
  rcases hk with rfl | rfl | ⟨i, v, hi, hk⟩
  · exact (Array.getElem?_eq_some_iff.1 h.head).1
  · exact (Array.getElem?_eq_some_iff.1 h.table).1
  · have hlt : i < xss.length := by rw [h.same]; exact (List.getElem?_eq_some_iff.1 hi).1
    exact (h.sets i v xss[i] hi (List.getElem?_eq_getElem hlt)).lt k hk
theorem CacheIn.congr {w' : World} (h : CacheIn w pb sb S W L vs xss) (e : ∀ k, foot pb sb vs k → w'.heap[k]? = w.heap[k]?) : CacheIn w' pb sb S W L vs xss :=
  ⟨(e pb (.inl rfl)).trans h.head, (e sb (.inr (.inl rfl))).trans h.table, h.count, h.same, h.apart,
    fun i v xs hi hx => (h.sets i v xs hi hx).congr fun k hk => e k (.inr (.inr ⟨i, v, hi, hk⟩)), h.far, h.lone⟩
theorem CacheIn.kept {F : Nat → Prop} {w' : World} (h : CacheIn w pb sb S W L vs xss) (hc : Chg F w w') (hd : ∀ k, foot pb sb vs k → ¬ F k) : CacheIn w' pb sb S W L vs xss :=
  h.congr fun k hk => hc.block k (h.foot_lt k hk) (hd k hk)
theorem CacheIn.below {w' : World} (h : CacheIn w pb sb S W L vs xss) (hb : Below w.heap.size w w') : CacheIn w' pb sb S W L vs xss :=
  h.congr fun k hk => hb.block k (h.foot_lt k hk)
end

/-- The index of a line's set, as a number. -/
def setN (S : Int) (l : Int) : Nat := (l % S).toNat

theorem setI_val {S W L l : Int} (hv : validB S W L = true) (hl : 0 ≤ l) : setI S W L l = (setN S l : Int) := by
  obtain ⟨s1, _⟩ := validB_range hv
  unfold setI setN
  rw [if_pos ⟨hv, hl⟩, Int.toNat_of_nonneg (Int.emod_nonneg _ (by omega))]
theorem setN_lt {S W L : Int} (l : Int) (hv : validB S W L = true) : (setN S l : Int) < S := by
  obtain ⟨s1, _⟩ := validB_range hv
  unfold setN
  rw [Int.toNat_of_nonneg (Int.emod_nonneg _ (by omega))]
  exact Int.emod_lt_of_pos _ (by omega)

theorem set_val (S W L a : Int) (w : World) (hv : validB S W L = true) (h0 : 0 ≤ a) (ha : a ≤ 9223372036854775807) :
    Calls Try.prog 17 #[.agg #[.int .i64 S, .int .i64 W, .int .i64 L], .int .i64 a] w fun e w' => e = .returned (.int .i64 (setN S a : Int)) ∧ Below w.heap.size w w' := by
  refine (set_any S W L a w ha).mono ?_
  rintro e w' ⟨rfl, hb⟩
  exact ⟨by rw [setI_val hv h0], hb⟩

theorem cell_kept {w w' : World} (hb : Below w.heap.size w w') {a : Addr} {u : Value} (h : w.cell? a = some u) : w'.cell? a = some u := (hb.cell (World.block_lt_of_cell? w a h)).trans h
theorem SetV.below {w w' : World} {v : Value} {xs : List Int} (h : SetV w v xs) (hb : Below w.heap.size w w') : SetV w' v xs := h.congr fun k hk => hb.block k (h.lt k hk)

theorem keepA {w W w1 : World} {a0 a1 a2 a3 a4 : Addr} {v0 v1 v2 v3 v4 v : Value} {xs : List Int} (hb : Below W.heap.size W w1)
    (h : W.cell? a0 = some v0 ∧ W.cell? a1 = some v1 ∧ W.cell? a2 = some v2 ∧ W.cell? a3 = some v3 ∧ W.cell? a4 = some v4 ∧ SetV W v xs ∧ Below w.heap.size w W) :
    w1.cell? a0 = some v0 ∧ w1.cell? a1 = some v1 ∧ w1.cell? a2 = some v2 ∧ w1.cell? a3 = some v3 ∧ w1.cell? a4 = some v4 ∧ SetV w1 v xs ∧ Below w.heap.size w w1 := by
  obtain ⟨h0, h1, h2, h3, h4, h5, h6⟩ := h
  exact ⟨cell_kept hb h0, cell_kept hb h1, cell_kept hb h2, cell_kept hb h3, cell_kept hb h4, h5.below hb, h6.trans (hb.mono h6.size)⟩
theorem keepS {w W : World} {a0 a1 a2 a3 a4 : Addr} {v0 v1 v2 v3 v4 v : Value} {xs : List Int}
    (h : W.cell? a0 = some v0 ∧ W.cell? a1 = some v1 ∧ W.cell? a2 = some v2 ∧ W.cell? a3 = some v3 ∧ W.cell? a4 = some v4 ∧ SetV W v xs ∧ Below w.heap.size w W) : SetV W v xs := h.2.2.2.2.2.1

set_option maxHeartbeats 1000000 in
theorem age_at {w : World} {pb sb : Nat} {S W L : Int} {vs : List Value} {xss : List (List Int)} (h : CacheIn w pb sb S W L vs xss) (ht : Tidy W vs xss) (hv : validB S W L = true) (l : Int) (h0 : 0 ≤ l) (hl : l ≤ 9223372036854775807)
    (v : Value) (xs : List Int) (hvi : vs[setN S l]? = some v) (hxi : xss[setN S l]? = some xs) :
    Calls Try.prog 25 #[.pointer (some ⟨pb, 0, none⟩), .int .i64 l] w fun e w' => e = .returned (.int .i64 (ageOf xs l)) ∧ Below w.heap.size w w' := by
  have p0 := h.p0
  have p1 := h.p1
  have p2 := h.p2
  have p3 := h.p3
  have q := h.at hvi
  have hS := h.sets _ _ _ hvi hxi
  obtain ⟨hz, hw⟩ := ht _ _ _ hvi hxi
  have hlt := setN_lt l hv
  have hvl : (setN S l : Int) < (vs.length : Int) := by rw [h.count]; exact hlt
  have hlen : xs.length ≤ maxLen := by obtain ⟨_, _, _, w8, _⟩ := validB_range hv; unfold maxLen; omega
  have hbig : (vs.length : Int) ≤ 64 := by rw [h.count]; exact (validB_range hv).2.1
  have HH := Lib.hid h
  have HV := Lib.hid hv
  have HSET := Lib.hid (fun w => set_val S W L l w hv h0 hl)
  have HIDX := Lib.hid (fun w (hS : SetV w v xs) => index_set w v xs l hS hlen)
  have hnb := World.new_ne w ⟨pb, 0, none⟩ p0
  have hnq := World.new_ne w ⟨sb, setN S l, none⟩ q
  have hpb := World.block_lt_of_cell? w _ p0
  have hsb := World.block_lt_of_cell? w _ q
  generalize setN S l = i at *
  clear h ht hv hvi hxi hz hw hlt
  go_enter Try.func25, Try.ntmps25
  go_wp2_with fail
  go_region_held3 (fun w' => w'.cell? ⟨pb, 0, none⟩ = some (.int .i64 S) ∧ w'.cell? ⟨pb, 1, none⟩ = some (.int .i64 W) ∧ w'.cell? ⟨pb, 2, none⟩ = some (.int .i64 L) ∧ w'.cell? ⟨pb, 3, none⟩ = some (.slice (some ⟨sb, 0, none⟩) vs.length vs.length) ∧ w'.cell? ⟨sb, i, none⟩ = some v ∧ SetV w' v xs ∧ Below w.heap.size w w')
    (first | exact ⟨p0, p1, p2, p3, q, hS, (Below.refl _ _).drew⟩ | assumption | exact keepA hb1 (by assumption))
    (first | (go_at_call 17; refine (HSET.out _).mono ?_; rintro e w1 ⟨rfl, hb1⟩) | (go_at_call 33; refine (HIDX.out _ (by obtain ⟨_, _, _, _, _, hq, _⟩ := ‹_ ∧ _ ∧ _ ∧ _ ∧ _ ∧ _ ∧ _›; exact hq)).mono ?_; rintro e w2 ⟨rfl, rfl⟩))
  all_goals go_wp2
  all_goals go_ret
  all_goals exact ⟨rfl, by obtain ⟨_, _, _, _, _, _, hq⟩ := ‹_ ∧ _ ∧ _ ∧ _ ∧ _ ∧ _ ∧ _›; exact hq⟩

/-- Age of a line that is negative. -/
theorem age_neg (pb : Nat) (l : Int) (w : World) (h0 : l < 0) :
    Calls Try.prog 25 #[.pointer (some ⟨pb, 0, none⟩), .int .i64 l] w fun e w' => e = .returned (.int .i64 (-1)) ∧ w = w' := by
  go_enter Try.func25, Try.ntmps25
  go_wp2_with fail
  go_ret
  exact ⟨rfl, rfl⟩

/-- Age of nil. -/
theorem age_nil (l : Int) (w : World) :
    Calls Try.prog 25 #[.pointer none, .int .i64 l] w fun e w' => e = .returned (.int .i64 (-1)) ∧ w = w' := by
  go_enter Try.func25, Try.ntmps25
  go_wp2_with fail
  go_ret
  exact ⟨rfl, rfl⟩

theorem line_val (S W L a : Int) (w : World) (hv : validB S W L = true) (h0 : 0 ≤ a) (ha : a ≤ 9223372036854775807) :
    Calls Try.prog 15 #[.agg #[.int .i64 S, .int .i64 W, .int .i64 L], .int .i64 a] w fun e w' => e = .returned (.int .i64 (a / L)) ∧ Below w.heap.size w w' := by
  refine (line_any S W L a w ha).mono ?_
  rintro e w' ⟨rfl, hb⟩
  exact ⟨by unfold lineI; rw [if_pos ⟨hv, h0⟩], hb⟩

set_option maxHeartbeats 1000000 in
theorem probe_at {w : World} {pb sb : Nat} {S W L : Int} {vs : List Value} {xss : List (List Int)} (h : CacheIn w pb sb S W L vs xss) (ht : Tidy W vs xss) (hv : validB S W L = true) (a : Int) (h0 : 0 ≤ a) (ha : a ≤ 9223372036854775807)
    (v : Value) (xs : List Int) (hvi : vs[setN S (a / L)]? = some v) (hxi : xss[setN S (a / L)]? = some xs) :
    Calls Try.prog 26 #[.pointer (some ⟨pb, 0, none⟩), .int .i64 a] w fun e w' => e = .returned (.bool (decide (0 ≤ ageOf xs (a / L)))) ∧ Below w.heap.size w w' := by
  have p0 := h.p0
  have p1 := h.p1
  have p2 := h.p2
  obtain ⟨s1, s2, w1, w2, l1, l2⟩ := validB_range hv
  have d0 : 0 ≤ a / L := Int.ediv_nonneg h0 (by omega)
  have d1 : a / L ≤ 9223372036854775807 := Int.le_trans (Int.ediv_le_self _ h0) ha
  have HL := Lib.hid (fun w => line_val S W L a w hv h0 ha)
  have HA := Lib.hid (fun w (h : CacheIn w pb sb S W L vs xss) => age_at h ht hv (a / L) d0 d1 v xs hvi hxi)
  have HH := Lib.hid h
  generalize a / L = l at *
  clear h ht hv hvi hxi
  go_enter Try.func26, Try.ntmps26
  go_wp2_with (first | (go_at_call 15; refine (HL.out _).mono ?_; rintro e w1 ⟨rfl, hb1⟩) | (go_at_call 25; refine (HA.out _ (HH.out.below (by assumption))).mono ?_; rintro e w2 ⟨rfl, hb2⟩))
  all_goals go_ret
  all_goals exact ⟨ret_bool rfl, hb1.trans (hb2.mono hb1.size)⟩

theorem probe_neg (pb : Nat) (a : Int) (w : World) (h0 : a < 0) :
    Calls Try.prog 26 #[.pointer (some ⟨pb, 0, none⟩), .int .i64 a] w fun e w' => e = .returned (.bool false) ∧ w = w' := by
  have h1 : ¬ 0 ≤ a := by omega
  go_enter Try.func26, Try.ntmps26
  go_wp2_with fail
  go_ret
  exact ⟨rfl, rfl⟩

theorem probe_nil (a : Int) (w : World) :
    Calls Try.prog 26 #[.pointer none, .int .i64 a] w fun e w' => e = .returned (.bool false) ∧ w = w' := by
  go_enter Try.func26, Try.ntmps26
  go_wp2_with fail
  go_ret
  exact ⟨rfl, rfl⟩

end Go.Proofs.Ytgpakmcboppfhaa
