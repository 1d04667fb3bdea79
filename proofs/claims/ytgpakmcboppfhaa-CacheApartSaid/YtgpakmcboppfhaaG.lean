/- Lines and Clone of a cache: a copy of the contents in new memory. -/
import Derived.Test.YtgpakmcboppfhaaE
namespace Go.Proofs.Ytgpakmcboppfhaa
set_option linter.unusedVariables false
set_option linter.unusedSimpArgs false
open Go.RowKit

/-- A table of sets at block sb with the contents xss. -/
structure TableAt (w : World) (sb : Nat) (vs : List Value) (xss : List (List Int)) : Prop where
  table : w.heap[sb]? = some (.cells vs.toArray 32 (0, 0))
  same : xss.length = vs.length
  sets : ∀ (i : Nat) (v : Value) (xs : List Int), vs[i]? = some v → xss[i]? = some xs → SetV w v xs ∧ (xs = [] → v = .slice none 0 0)
  far : ∀ (i : Nat) (v : Value) (k : Nat), vs[i]? = some v → own v k → k ≠ sb
  lone : ∀ (i j : Nat) (v u : Value) (k : Nat), vs[i]? = some v → vs[j]? = some u → own v k → own u k → i = j

def tfoot (sb : Nat) (vs : List Value) (k : Nat) : Prop := k = sb ∨ ∃ (i : Nat) (v : Value), vs[i]? = some v ∧ own v k

section
variable {w : World} {sb : Nat} {vs : List Value} {xss : List (List Int)}
theorem TableAt.foot_lt (h : TableAt w sb vs xss) : ∀ k, tfoot sb vs k → k < w.heap.size := by
  intro k hk
  rcases hk with rfl | ⟨i, v, hi, hk⟩
  · exact (Array.getElem?_eq_some_iff.1 h.table).1
  · have hlt : i < xss.length := by rw [h.same]; exact (List.getElem?_eq_some_iff.1 hi).1
    exact (h.sets i v xss[i] hi (List.getElem?_eq_getElem hlt)).1.lt k hk
theorem TableAt.congr {w' : World} (h : TableAt w sb vs xss) (e : ∀ k, tfoot sb vs k → w'.heap[k]? = w.heap[k]?) : TableAt w' sb vs xss :=
  ⟨(e sb (.inl rfl)).trans h.table, h.same, fun i v xs hi hx => let ⟨a, b⟩ := h.sets i v xs hi hx; ⟨a.congr fun k hk => e k (.inr ⟨i, v, hi, hk⟩), b⟩, h.far, h.lone⟩
theorem TableAt.below {w' : World} (h : TableAt w sb vs xss) (hb : Below w.heap.size w w') : TableAt w' sb vs xss := h.congr fun k hk => hb.block k (h.foot_lt k hk)
theorem TableAt.kept {F : Nat → Prop} {w' : World} (h : TableAt w sb vs xss) (hc : Chg F w w') (hd : ∀ k, tfoot sb vs k → ¬ F k) : TableAt w' sb vs xss := h.congr fun k hk => hc.block k (h.foot_lt k hk) (hd k hk)
theorem TableAt.at (h : TableAt w sb vs xss) {i : Nat} {v : Value} (hi : vs[i]? = some v) : w.cell? ⟨sb, i, none⟩ = some v := by simp [World.cell?, h.table, hi]
theorem TableAt.sf (h : TableAt w sb vs xss) (j : Nat) : w.frozen? ⟨sb, j, none⟩ = false := by simp [World.frozen?, h.table]
theorem TableAt.put (h : TableAt w sb vs xss) {i : Nat} (hi : i < vs.length) {w2 : World} {v' : Value} {ys : List Int} (hb : Below w.heap.size w w2) (hset : SetV w2 v' ys) (hz : ys = [] → v' = .slice none 0 0)
    (hown : ∀ k, own v' k → w.heap.size ≤ k) : TableAt (w2.setCell ⟨sb, i, none⟩ v') sb (vs.set i v') (xss.set i ys) := by
  have hsb : sb < w.heap.size := h.foot_lt sb (.inl rfl)
  have e2 : w2.heap[sb]? = w.heap[sb]? := hb.block sb hsb
  have ownLt : ∀ (j : Nat) (u : Value) k, vs[j]? = some u → own u k → k < w.heap.size := fun j u k hj hk => h.foot_lt k (.inr ⟨j, u, hj, hk⟩)
  refine ⟨?_, ?_, ?_, ?_, ?_⟩
  · rw [heap_setCell_self _ _ _ _ _ _ _ (e2.trans h.table)]; simp
  · rw [List.length_set, List.length_set]; exact h.same
  · intro j u xs hj hx
    rw [List.getElem?_set] at hj hx
    by_cases hij : i = j
    · subst hij
      rw [if_pos rfl, if_pos hi] at hj
      rw [if_pos rfl, if_pos (by rw [h.same]; exact hi)] at hx
      cases hj; cases hx
      exact ⟨hset.congr fun k hk => Below.heap_setCell _ _ _ _ (by have := hown k hk; show k ≠ sb; omega), hz⟩
    · rw [if_neg hij] at hj hx
      obtain ⟨a, b⟩ := h.sets j u xs hj hx
      refine ⟨a.congr fun k hk => ?_, b⟩
      rw [Below.heap_setCell _ _ _ _ (h.far j u k hj hk)]
      exact hb.block k (ownLt j u k hj hk)
  · intro j u k hj hk
    rw [List.getElem?_set] at hj
    by_cases hij : i = j
    · subst hij
      rw [if_pos rfl, if_pos hi] at hj
      cases hj
      have := hown k hk; omega
    · rw [if_neg hij] at hj
      exact h.far j u k hj hk
  · intro j1 j2 u1 u2 k h1 h2 k1 k2
    rw [List.getElem?_set] at h1 h2
    by_cases a1 : i = j1
    · by_cases a2 : i = j2
      · omega
      · rw [if_pos a1, if_pos hi] at h1
        rw [if_neg a2] at h2
        cases h1
        have := hown k k1
        have := ownLt j2 u2 k h2 k2; omega
    · by_cases a2 : i = j2
      · rw [if_pos a2, if_pos hi] at h2
        rw [if_neg a1] at h1
        cases h2
        have := hown k k2
        have := ownLt j1 u1 k h1 k1; omega
      · rw [if_neg a1] at h1
        rw [if_neg a2] at h2
        exact h.lone j1 j2 u1 u2 k h1 h2 k1 k2
theorem TableAt.fresh {w : World} {sb n : Nat} (hs : w.heap[sb]? = some (.cells (nilRow n) 32 (0, 0))) : TableAt w sb (List.replicate n (.slice none 0 0)) (List.replicate n []) := by
  have hval : ∀ (i : Nat) (v : Value), (List.replicate n (Value.slice none 0 0))[i]? = some v → v = .slice none 0 0 := fun i v h => List.eq_of_mem_replicate (List.mem_of_getElem? h)
  have hnil : ∀ (i : Nat) (xs : List Int), (List.replicate n ([] : List Int))[i]? = some xs → xs = [] := fun i v h => List.eq_of_mem_replicate (List.mem_of_getElem? h)
  refine ⟨hs, by simp, ?_, ?_, ?_⟩
  · intro i v xs h1 h2; exact ⟨.inl ⟨hval i v h1, hnil i xs h2⟩, fun _ => hval i v h1⟩
  · intro i v k h1 h2; rw [hval i v h1] at h2; simp [own, Value.ownBlock] at h2
  · intro i j v u k h1 h2 h3; rw [hval i v h1] at h3; simp [own, Value.ownBlock] at h3
end

theorem fill_step {xss : List (List Int)} {n i : Nat} {xs : List Int} (hl : xss.length = n) (hx : xss[i]? = some xs) :
    (xss.take i ++ List.replicate (n - i) []).set i xs = xss.take (i + 1) ++ List.replicate (n - (i + 1)) [] := by
  obtain ⟨hi, hxs⟩ := List.getElem?_eq_some_iff.1 hx
  obtain ⟨m, hm⟩ : ∃ m, n - i = m + 1 := ⟨n - i - 1, by omega⟩
  rw [hm, List.replicate_succ, show n - (i + 1) = m by omega]
  rw [List.set_append_right _ _ (by rw [List.length_take]; omega)]
  rw [show i - (xss.take i).length = 0 by rw [List.length_take]; omega]
  rw [List.take_add_one, hx]
  simp

set_option maxHeartbeats 1000000 in
/-- Lines: a copy of the sets in new memory. -/
theorem lines_c {w : World} {pb : Nat} {S W L : Int} {xss : List (List Int)} {F : Nat → Prop} (h : CacheAt w pb S W L xss F) (hv : validB S W L = true) :
    Calls Try.prog 24 #[.pointer (some ⟨pb, 0, none⟩)] w fun e w' => ∃ ob vs, e = .returned (.slice (some ⟨ob, 0, none⟩) xss.length xss.length) ∧ TableAt w' ob vs xss ∧ Below w.heap.size w w' ∧ (∀ k, tfoot ob vs k → w.heap.size ≤ k) := by
  obtain ⟨s1, s2, w1, w2, l1, l2⟩ := validB_range hv
  obtain ⟨sb, vs, h1, h2, h3⟩ := h
  have hcount := h1.count
  have hsame := h1.same
  obtain ⟨n, hn⟩ : ∃ n : Nat, vs.length = n := ⟨_, rfl⟩
  have hmk := make_sets n (by omega)
  have p0 := h1.p0
  have p3 := h1.p3
  rw [hn] at p3
  have hpb : pb < w.heap.size := h1.foot_lt pb (.inl rfl)
  have hsb : sb < w.heap.size := h1.foot_lt sb (.inr (.inl rfl))
  have hne := World.new_ne w _ p0
  have HN := Lib.hid hn
  have HC := Lib.hid hcount
  have HS := Lib.hid hsame
  have HH := Lib.hid h1
  have HT := Lib.hid h2
  have hb64 : (n : Int) ≤ 64 := by omega
  clear h1 h2 h3 hv hn hcount hsame
  go_enter Try.func24, Try.ntmps24
  go_wp2_with fail
  obtain ⟨wo, hwo⟩ : ∃ wo : World, wo = w.alloc (.cells (nilRow n) 32) := ⟨_, rfl⟩
  have hbo : Below w.heap.size w wo := by rw [hwo]; exact (Below.refl _ _).alloc (Nat.le_refl _) _
  have hto : TableAt wo w.heap.size (List.replicate n (.slice none 0 0)) (List.replicate n []) := TableAt.fresh (by rw [hwo]; exact heap_alloc_new w _)
  have hlo : w.heap.size < wo.heap.size := by rw [hwo]; simp
  rw [← hwo]
  clear hwo
  have HBO := Lib.hid hbo
  have HTO := Lib.hid hto
  clear hbo hto
  go_loopw [19] (fun s19 wr => ∃ (i : Nat) (us : List Value), i ≤ n ∧ s19 = .int .i64 i ∧ us.length = n ∧ TableAt wr w.heap.size us (xss.take i ++ List.replicate (n - i) []) ∧ Below w.heap.size w wr ∧ (∀ k, tfoot w.heap.size us k → w.heap.size ≤ k)) (fun s19 _ => n - (intOf s19).toNat)
  case atStart =>
    refine ⟨0, List.replicate n (.slice none 0 0), Nat.zero_le _, rfl, List.length_replicate, (by rw [List.take_zero, List.nil_append]; exact HTO.out), HBO.out, ?_⟩
    rintro k (rfl | ⟨j, u, hj, hk⟩)
    · exact Nat.le_refl _
    · rw [List.eq_of_mem_replicate (List.mem_of_getElem? hj)] at hk; simp [own, Value.ownBlock] at hk
  case round =>
    obtain ⟨i, us, hi, rfl, hu, ht, hb, hf⟩ := hrel
    by_cases hlt : i < n
    · have hcr := HH.out.below hb
      have hvi : vs[i]? = some (vs[i]'(by have := HN.out; omega)) := List.getElem?_eq_getElem _
      have hxi : xss[i]? = some (xss[i]'(by have := HN.out; have := HS.out; omega)) := List.getElem?_eq_getElem _
      generalize (vs[i]'(by have := HN.out; omega)) = v at hvi
      generalize (xss[i]'(by have := HN.out; have := HS.out; omega)) = xs at hxi
      have q := hcr.at hvi
      have hset := hcr.sets _ _ _ hvi hxi
      obtain ⟨hz, hw⟩ := HT.out _ _ _ hvi hxi
      have hui : us[i]? = some (us[i]'(by omega)) := List.getElem?_eq_getElem _
      generalize (us[i]'(by omega)) = u at hui
      have qo := ht.at hui
      have fo := ht.sf i
      have HCL := Lib.hid (clone_set wr v xs hset hz (by omega))
      have HTT := Lib.hid ht
      have HBB := Lib.hid hb
      have HF := Lib.hid hf
      have HX := Lib.hid hxi
      have HU := Lib.hid hu
      have hlw : w.heap.size < wr.heap.size := ht.foot_lt _ (.inl rfl)
      clear hcr ht hb hf hxi hvi hui hset hz hu
      go_wp2_with (first | (go_at_call 36; go_must (refine HCL.out.mono ?_); rintro e w2 ⟨v2, rfl, hs2, hz2, ho2, hb2⟩; obtain ⟨hc2, hf2⟩ := bcell hb2; obtain ⟨b2, k2, rfl⟩ := hs2.isSlice))
      go_roundw
      case rel =>
        have hp := HTT.out.put (i := i) (by have := HU.out; omega) hb2 hs2 hz2 ho2
        rw [fill_step (by have := HN.out; have := HS.out; omega) HX.out] at hp
        refine ⟨i + 1, _, by omega, by go_num, by rw [List.length_set]; exact HU.out, hp, ?_, ?_⟩
        · exact (HBB.out.trans (hb2.mono (by omega))).setCell (Nat.le_refl _) _
        · rintro k (rfl | ⟨j, y, hj, hk⟩)
          · exact Nat.le_refl _
          · rw [List.getElem?_set] at hj
            by_cases hij : i = j
            · rw [if_pos hij, if_pos (by have := HU.out; omega)] at hj
              cases hj
              have := ho2 k hk; omega
            · rw [if_neg hij] at hj
              exact HF.out k (.inr ⟨j, y, hj, hk⟩)
      case measure => simp [intOf]; omega
    · go_wp2_with fail
      go_ret
      have hxl : xss.length = n := by have := HN.out; have := HS.out; omega
      have hin : i = n := by omega
      subst hin
      refine ⟨w.heap.size, us, by rw [hxl]; rfl, ?_, hb, hf⟩
      rw [List.take_of_length_le (by omega), Nat.sub_self, List.replicate_zero, List.append_nil] at ht
      exact ht

theorem lines_nil (w : World) : Calls Try.prog 24 #[.pointer none] w fun e w' => e = .returned (.slice none 0 0) ∧ w = w' := by
  go_enter Try.func24, Try.ntmps24
  go_wp2_with fail
  go_ret
  exact ⟨rfl, rfl⟩

theorem clone_nil (w : World) : Calls Try.prog 27 #[.pointer none] w fun e w' => e = .returned (.pointer none) ∧ w = w' := by
  go_enter Try.func27, Try.ntmps27
  go_wp2_with fail
  go_ret
  exact ⟨rfl, rfl⟩


theorem keepK {W w1 : World} {pb : Nat} {S U L : Int} {xss : List (List Int)} {F : Nat → Prop} {a0 a1 a2 : Addr} {v0 v1 v2 : Value} (hb : Below W.heap.size W w1)
    (h : W.cell? a0 = some v0 ∧ W.cell? a1 = some v1 ∧ W.cell? a2 = some v2 ∧ CacheAt W pb S U L xss F) :
    w1.cell? a0 = some v0 ∧ w1.cell? a1 = some v1 ∧ w1.cell? a2 = some v2 ∧ CacheAt w1 pb S U L xss F :=
  ⟨cell_kept hb h.1, cell_kept hb h.2.1, cell_kept hb h.2.2.1, h.2.2.2.below hb⟩

/-- A table makes a cache. -/
theorem TableAt.cache {w : World} {pb sb : Nat} {S W L : Int} {vs : List Value} {xss : List (List Int)} (h : TableAt w sb vs xss) (hp : w.heap[pb]? = some (.cells #[.int .i64 S, .int .i64 W, .int .i64 L, .slice (some ⟨sb, 0, none⟩) xss.length xss.length] 52 (0, 0)))
    (hS : (xss.length : Int) = S) (hW : ∀ xs ∈ xss, (xs.length : Int) ≤ W) (hne : ∀ k, tfoot sb vs k → k ≠ pb) : CacheAt w pb S W L xss (fun k => k = pb ∨ tfoot sb vs k) := by
  refine ⟨sb, vs, ⟨by rw [← h.same]; exact hp, h.table, by rw [← h.same]; exact hS, h.same, fun e => hne sb (.inl rfl) e.symm, fun i v xs a b => (h.sets i v xs a b).1, fun i v k a b => ⟨hne k (.inr ⟨i, v, a, b⟩), h.far i v k a b⟩, h.lone⟩,
    fun i v xs a b => ⟨(h.sets i v xs a b).2, hW xs (List.mem_of_getElem? b)⟩, fun k => ?_⟩
  constructor
  · rintro (rfl | rfl | h)
    · exact .inl rfl
    · exact .inr (.inl rfl)
    · exact .inr (.inr h)
  · rintro (rfl | rfl | h)
    · exact .inl rfl
    · exact .inr (.inl rfl)
    · exact .inr (.inr h)

def Cloned (w : World) (S W L : Int) (xss : List (List Int)) (e : Ending) (w' : World) : Prop :=
  ∃ pb F, e = .returned (.pointer (some ⟨pb, 0, none⟩)) ∧ CacheAt w' pb S W L xss F ∧ Below w.heap.size w w' ∧ (∀ k, F k → w.heap.size ≤ k)

set_option maxHeartbeats 1000000 in
theorem clone_c {w : World} {pb : Nat} {S W L : Int} {xss : List (List Int)} {F : Nat → Prop} (h : CacheAt w pb S W L xss F) (hv : validB S W L = true) :
    Calls Try.prog 27 #[.pointer (some ⟨pb, 0, none⟩)] w (Cloned w S W L xss) := by
  have HLI := Lib.hid (fun w (h : CacheAt w pb S W L xss F) => lines_c h hv)
  have p0 : w.cell? ⟨pb, 0, none⟩ = some (.int .i64 S) := by obtain ⟨sb, vs, h1, _⟩ := h; exact h1.p0
  have p1 : w.cell? ⟨pb, 1, none⟩ = some (.int .i64 W) := by obtain ⟨sb, vs, h1, _⟩ := h; exact h1.p1
  have p2 : w.cell? ⟨pb, 2, none⟩ = some (.int .i64 L) := by obtain ⟨sb, vs, h1, _⟩ := h; exact h1.p2
  have hd : CacheAt w.drew pb S W L xss F := h.below (Below.refl _ _).drew
  have HCO := Lib.hid h.count
  have HSH := Lib.hid h.short
  clear h hv
  go_enter Try.func27, Try.ntmps27
  go_wp2_with fail
  go_region_held3 (fun w' => w'.cell? ⟨pb, 0, none⟩ = some (.int .i64 S) ∧ w'.cell? ⟨pb, 1, none⟩ = some (.int .i64 W) ∧ w'.cell? ⟨pb, 2, none⟩ = some (.int .i64 L) ∧ CacheAt w' pb S W L xss F)
    (first | exact ⟨p0, p1, p2, hd⟩ | assumption | exact keepK hb1 (by assumption) | exact keepK ((Below.refl _ _).alloc (Nat.le_refl _) _) (by assumption))
    (first | (go_at_call 24; refine (HLI.out _ (by obtain ⟨_, _, _, hq⟩ := ‹_ ∧ _ ∧ _ ∧ CacheAt _ _ _ _ _ _ _›; exact hq)).mono ?_; rintro e w1 ⟨ob, us, rfl, ht1, hb1, hf1⟩))
  all_goals go_wp2
  all_goals go_ret
  all_goals
    have hb2 := (Below.refl w1.heap.size w1).alloc (Nat.le_refl _) (.cells #[.int .i64 S, .int .i64 W, .int .i64 L, .slice (some ⟨ob, 0, none⟩) xss.length xss.length] 52)
    have hsz : w.heap.size ≤ w1.heap.size := hb1.size
    have hne : ∀ k, tfoot ob us k → k ≠ w1.heap.size := fun k hk => by have := ht1.foot_lt k hk; omega
    refine ⟨w1.heap.size, _, rfl, (ht1.below hb2).cache (heap_alloc_new w1 _) HCO.out HSH.out hne, ?_, ?_⟩
    · exact ((Below.refl _ w).drew.trans (hb1.mono (Nat.le_refl _))).trans (hb2.mono hsz)
    · rintro k (rfl | hk)
      · exact hsz
      · exact hf1 k hk

end Go.Proofs.Ytgpakmcboppfhaa
