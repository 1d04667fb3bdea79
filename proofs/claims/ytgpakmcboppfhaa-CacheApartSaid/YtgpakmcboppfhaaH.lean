/- The helpers of the laws of layer 6: great, made, misses, Ints, awake. -/
import Derived.Test.YtgpakmcboppfhaaG
namespace Go.Proofs.Ytgpakmcboppfhaa
set_option linter.unusedVariables false
set_option linter.unusedSimpArgs false
open Go.RowKit

def InI (l : List Int) : Prop := ∀ x ∈ l, -9223372036854775808 ≤ x ∧ x ≤ 9223372036854775807

/-- The slice at a, in a block below N, holds the ints l. -/
def ArgI (N : Nat) (w : World) (a : Option Addr) (l : List Int) : Prop :=
  l = [] ∨ ∃ b off, a = some ⟨b, off, none⟩ ∧ b < N ∧ ∀ i, i < l.length → w.cell? ⟨b, off + i, none⟩ = some (.int .i64 (l.getD i 0))

theorem ArgI.kept {N : Nat} {w w' : World} {a : Option Addr} {l : List Int} (h : ArgI N w a l) (hb : Below w.heap.size w w') : ArgI N w' a l := by
  rcases h with h | ⟨b, off, h1, h2, h3⟩
  · exact .inl h
  · exact .inr ⟨b, off, h1, h2, fun i hi => cell_kept hb (h3 i hi)⟩
theorem ArgI.chg {N : Nat} {F : Nat → Prop} {w w' : World} {a : Option Addr} {l : List Int} (h : ArgI N w a l) (hc : Chg F w w') (hF : ∀ k, F k → N ≤ k) : ArgI N w' a l := by
  rcases h with h | ⟨b, off, h1, h2, h3⟩
  · exact .inl h
  · exact .inr ⟨b, off, h1, h2, fun i hi => (World.cell?_of_block (w := w) (a := ⟨b, off + i, none⟩) (hc.block b (World.block_lt_of_cell? w _ (h3 i hi)) (fun hk => by have := hF b hk; omega))).trans (h3 i hi)⟩
theorem ArgI.at {N : Nat} {w : World} {a : Option Addr} {l : List Int} (h : ArgI N w a l) {i : Nat} (hi : i < l.length) : ∃ b off, a = some ⟨b, off, none⟩ ∧ w.cell? ⟨b, off + i, none⟩ = some (.int .i64 (l.getD i 0)) := by
  rcases h with rfl | ⟨b, off, h1, h2, h3⟩
  · simp at hi
  · exact ⟨b, off, h1, h3 i hi⟩
theorem SetV.arg {w : World} {v : Value} {xs : List Int} (h : SetV w v xs) : ∃ a c, v = .slice a xs.length c ∧ ArgI w.heap.size w a xs := by
  rcases h with ⟨rfl, rfl⟩ | ⟨g, cap, rfl, hr⟩
  · exact ⟨none, 0, rfl, .inl rfl⟩
  · exact ⟨_, cap, rfl, .inr ⟨g, 0, rfl, hr.lt, fun i hi => by rw [Nat.zero_add]; exact hr.cell i hi⟩⟩
theorem InI.at {l : List Int} (h : InI l) {i : Nat} (hi : i < l.length) : -9223372036854775808 ≤ l.getD i 0 ∧ l.getD i 0 ≤ 9223372036854775807 := by
  rw [List.getD_eq_getElem?_getD, List.getElem?_eq_getElem hi]
  exact h _ (List.getElem_mem hi)

theorem foldl_take_succ {α β : Type} (f : α → β → α) (s : α) (l : List β) (d : β) (k : Nat) (hk : k < l.length) : (l.take (k + 1)).foldl f s = f ((l.take k).foldl f s) (l.getD k d) := by
  rw [List.take_add_one, List.foldl_append, List.getElem?_eq_getElem hk, List.getD_eq_getElem?_getD, List.getElem?_eq_getElem hk]
  rfl

/-! ### great -/
def greatB (l : List Int) : Bool := l.any (fun x => decide (100000 < x)) || decide (200 < l.length)

theorem any_false_at {l : List Int} (h : l.any (fun x => decide (100000 < x)) = false) {i : Nat} (hi : i < l.length) : l.getD i 0 ≤ 100000 := by
  rw [List.any_eq_false] at h
  have := h _ (List.getElem_mem hi)
  rw [List.getD_eq_getElem?_getD, List.getElem?_eq_getElem hi]
  simpa using this

set_option maxHeartbeats 1000000 in
theorem great_any {N : Nat} (a : Option Addr) (c : Nat) (l : List Int) (w : World) (h : ArgI N w a l) (hl : (l.length : Int) ≤ 9223372036854775807) :
    Calls Try.prog 20 #[.slice a l.length c] w fun e w' => e = .returned (.bool (greatB l)) ∧ w = w' := by
  have HA := Lib.hid h
  clear h
  go_enter Try.func20, Try.ntmps20
  go_wp2_with fail
  go_loop [7] (fun s7 => ∃ i : Nat, i ≤ l.length ∧ s7 = .int .i64 i ∧ Hid ((l.take i).any (fun x => decide (100000 < x)) = false)) (fun s7 => l.length - (intOf s7).toNat)
  case atStart => exact ⟨0, Nat.zero_le _, rfl, Lib.hid rfl⟩
  case round =>
    obtain ⟨i, hi, rfl, hp⟩ := hrel
    by_cases hlt : i < l.length
    · obtain ⟨b, off, rfl, hc⟩ := HA.out.at hlt
      have hs : (l.take (i + 1)).any (fun x => decide (100000 < x)) = decide (100000 < l.getD i 0) := by
        rw [List.take_add_one, List.any_append, hp.out, List.getElem?_eq_getElem hlt, List.getD_eq_getElem?_getD, List.getElem?_eq_getElem hlt]; simp
      have HS := Lib.hid hs
      have HLT := Lib.hid hlt
      clear hs
      generalize hx : l.getD i 0 = x at *
      have HX := Lib.hid hx
      clear hx
      by_cases hb : 100000 < x
      · go_wp2_with fail
        go_ret
        refine ⟨ret_bool ?_, rfl⟩
        unfold greatB
        have : l.any (fun x => decide (100000 < x)) = true := by
          rw [List.any_eq_true]
          refine ⟨x, ?_, by simpa using hb⟩
          rw [← HX.out, List.getD_eq_getElem?_getD, List.getElem?_eq_getElem HLT.out]; exact List.getElem_mem _
        rw [this]; rfl
      · go_wp2_with fail
        go_round
        case rel => exact ⟨i + 1, by omega, by go_num, Lib.hid (by rw [HS.out]; exact decide_eq_false (by omega))⟩
        case measure => simp [intOf]; omega
    · go_wp2_with fail
      go_ret
      have hin : i = l.length := by omega
      have hp' := hp.out
      rw [hin, List.take_length] at hp'
      refine ⟨ret_bool ?_, rfl⟩
      unfold greatB
      rw [hp', Bool.false_or]
      simp only [decide_eq_decide]; omega

/-! ### one access, whatever the address -/
def stepA (S W L : Int) (s : List (List Int)) (a : Int) : List (List Int) := if a < 0 then s else stepC S W L s a
def hitA (S L : Int) (s : List (List Int)) (a : Int) : Bool := if a < 0 then false else hitC S L s a
def runC (S W L : Int) (s : List (List Int)) (l : List Int) : List (List Int) := l.foldl (stepA S W L) s

/-- What an access leaves. -/
def Accessed (w : World) (pb : Nat) (S W L : Int) (xss : List (List Int)) (F : Nat → Prop) (hit : Bool) (e : Ending) (w' : World) : Prop :=
  e = .returned (.bool hit) ∧ ∃ F', CacheAt w' pb S W L xss F' ∧ Chg F w w' ∧ (∀ k, F' k → F k ∨ w.heap.size ≤ k)

theorem access_any {w : World} {pb : Nat} {S W L : Int} {xss : List (List Int)} {F : Nat → Prop} (h : CacheAt w pb S W L xss F) (hv : validB S W L = true) (a : Int) (ha : a ≤ 9223372036854775807) :
    Calls Try.prog 23 #[.pointer (some ⟨pb, 0, none⟩), .int .i64 a] w (Accessed w pb S W L (stepA S W L xss a) F (hitA S L xss a)) := by
  unfold stepA hitA
  by_cases h0 : a < 0
  · rw [if_pos h0, if_pos h0]
    refine (access_neg pb a w h0).mono ?_
    rintro e w' ⟨rfl, rfl⟩
    exact ⟨rfl, F, h, Chg.refl _ _, fun _ h => .inl h⟩
  · rw [if_neg h0, if_neg h0]
    refine (access_c h hv a (by omega) ha).mono ?_
    rintro e w' ⟨rfl, hq⟩
    exact ⟨rfl, hq⟩

/-- What is known of a made cache. -/
def Made (w : World) (S W L : Int) (xss : List (List Int)) (e : Ending) (w' : World) : Prop :=
  ∃ pb F, e = .returned (.pointer (some ⟨pb, 0, none⟩)) ∧ CacheAt w' pb S W L xss F ∧ Below w.heap.size w w' ∧ (∀ k, F k → w.heap.size ≤ k)

def emptyC (S : Int) : List (List Int) := List.replicate S.toNat []

set_option maxHeartbeats 1000000 in
theorem made_yes {N : Nat} (S W L : Int) (a : Option Addr) (c : Nat) (l : List Int) (w : World) (hv : validB S W L = true) (h : ArgI N w a l) (hl : (l.length : Int) ≤ 9223372036854775807) (hI : InI l) :
    Calls Try.prog 19 #[.agg #[.int .i64 S, .int .i64 W, .int .i64 L], .slice a l.length c] w (Made w S W L (runC S W L (emptyC S) l)) := by
  have HN := Lib.hid (fun w => new_yes S W L w hv)
  have HV := Lib.hid hv
  have HA := Lib.hid h
  have HI := Lib.hid hI
  have HB := Lib.hid ((Below.refl w.heap.size w).alloc (Nat.le_refl _) (.cells #[.int .i64 S, .int .i64 W, .int .i64 L] 23))
  clear hv h hI
  go_enter Try.func19, Try.ntmps19
  go_wp2_with (first | (go_at_call 12; go_must (refine (HN.out _).mono ?_); rintro e w1 ⟨pb, F, rfl, hc1, hb1, hf1⟩))
  have hbb : Below w.heap.size w w1 := HB.out.trans (hb1.mono (by simp))
  have HBB := Lib.hid hbb
  have HC1 := Lib.hid hc1
  have HF1 := Lib.hid (fun k hk => show w.heap.size ≤ k by have := hf1 k hk; simp at this; omega)
  clear hbb hc1 hf1 hb1
  go_loopw [18] (fun s18 wr => ∃ (i : Nat), i ≤ l.length ∧ s18 = .int .i64 i ∧ ∃ F', CacheAt wr pb S W L (runC S W L (emptyC S) (l.take i)) F' ∧ Below w.heap.size w wr ∧ (∀ k, F' k → w.heap.size ≤ k)) (fun s18 _ => l.length - (intOf s18).toNat)
  case atStart => exact ⟨0, Nat.zero_le _, rfl, F, HC1.out, HBB.out, HF1.out⟩
  case round =>
    obtain ⟨i, hi, rfl, F', hc, hb, hf⟩ := hrel
    by_cases hlt : i < l.length
    · obtain ⟨b, off, rfl, hx⟩ := (HA.out.kept hb).at hlt
      have hr := HI.out.at hlt
      have HS := Lib.hid (foldl_take_succ (stepA S W L) (emptyC S) l 0 i hlt)
      generalize l.getD i 0 = x at *
      have HAC := Lib.hid (access_any hc HV.out x hr.2)
      have HBR := Lib.hid hb
      have HFR := Lib.hid hf
      clear hc hb hf hr
      go_wp2_with (first | (go_at_call 23; go_must (refine HAC.out.mono ?_); rintro e w3 ⟨rfl, F3, hc3, hg3, ho3⟩))
      go_roundw
      case rel =>
        refine ⟨i + 1, by omega, by go_num, F3, ?_, hg3.toBelow HBR.out HFR.out, fun k hk => ?_⟩
        · unfold runC; rw [HS.out]; exact hc3
        · rcases ho3 k hk with o | o
          · exact HFR.out k o
          · exact Nat.le_trans HBR.out.size o
      case measure => simp [intOf]; omega
    · go_wp2_with fail
      go_ret
      have hin : i = l.length := by omega
      rw [hin, List.take_length] at hc
      exact ⟨pb, F', rfl, hc, hb, hf⟩


theorem made_no (S W L : Int) (v : Value) (w : World) (hv : validB S W L = false) :
    Calls Try.prog 19 #[.agg #[.int .i64 S, .int .i64 W, .int .i64 L], v] w fun e w' => e = .returned (.pointer none) ∧ Below w.heap.size w w' := by
  have HN := Lib.hid (fun w => new_no S W L w hv)
  have HB := Lib.hid ((Below.refl w.heap.size w).alloc (Nat.le_refl _) (.cells #[.int .i64 S, .int .i64 W, .int .i64 L] 23))
  clear hv
  go_enter Try.func19, Try.ntmps19
  go_wp2_with (first | (go_at_call 12; go_must (refine (HN.out _).mono ?_); rintro e w1 ⟨rfl, hb1⟩))
  go_ret
  exact ⟨rfl, HB.out.trans (hb1.mono (by simp))⟩

/-! ### misses -/
def missA (S W L : Int) (p : Nat × List (List Int)) (a : Int) : Nat × List (List Int) :=
  if a < 0 then p else (if hitC S L p.2 a then p.1 else p.1 + 1, stepC S W L p.2 a)
def missC (S W L : Int) (s : List (List Int)) (l : List Int) : Nat × List (List Int) := l.foldl (missA S W L) (0, s)

theorem missA_snd (S W L : Int) (p : Nat × List (List Int)) (a : Int) : (missA S W L p a).2 = stepA S W L p.2 a := by
  unfold missA stepA; split <;> rfl
theorem foldl_missA_snd (S W L : Int) (l : List Int) (p : Nat × List (List Int)) : (l.foldl (missA S W L) p).2 = l.foldl (stepA S W L) p.2 := by
  induction l generalizing p with
  | nil => rfl
  | cons a l ih => rw [List.foldl_cons, List.foldl_cons, ih, missA_snd]
theorem missC_snd (S W L : Int) (s : List (List Int)) (l : List Int) : (missC S W L s l).2 = runC S W L s l := foldl_missA_snd S W L l (0, s)
theorem missA_le (S W L : Int) (p : Nat × List (List Int)) (a : Int) : (missA S W L p a).1 ≤ p.1 + 1 := by
  unfold missA; split
  · omega
  · show (if hitC S L p.2 a = true then p.1 else p.1 + 1) ≤ p.1 + 1
    split <;> omega
theorem foldl_missA_le (S W L : Int) (l : List Int) (p : Nat × List (List Int)) : (l.foldl (missA S W L) p).1 ≤ p.1 + l.length := by
  induction l generalizing p with
  | nil => simp
  | cons a l ih =>
    rw [List.foldl_cons, List.length_cons]
    have := ih (missA S W L p a)
    have := missA_le S W L p a
    omega
theorem missC_le (S W L : Int) (s : List (List Int)) (l : List Int) : (missC S W L s l).1 ≤ l.length := by
  have := foldl_missA_le S W L l (0, s)
  unfold missC; omega

/-- What misses leaves. -/
def Missed (w : World) (pb : Nat) (S W L : Int) (r : Nat × List (List Int)) (F : Nat → Prop) (e : Ending) (w' : World) : Prop :=
  e = .returned (.int .i64 (r.1 : Int)) ∧ ∃ F', CacheAt w' pb S W L r.2 F' ∧ Chg F w w' ∧ (∀ k, F' k → F k ∨ w.heap.size ≤ k)

set_option maxHeartbeats 1000000 in
theorem misses_any {N : Nat} {w : World} {pb : Nat} {S W L : Int} {xss : List (List Int)} {F : Nat → Prop} (hc : CacheAt w pb S W L xss F) (hv : validB S W L = true) (a : Option Addr) (c : Nat) (l : List Int) (h : ArgI N w a l)
    (hd : ∀ k, F k → N ≤ k) (hl : (l.length : Int) ≤ 9223372036854775807) (hI : InI l) :
    Calls Try.prog 21 #[.pointer (some ⟨pb, 0, none⟩), .slice a l.length c] w (Missed w pb S W L (missC S W L xss l) F) := by
  have HV := Lib.hid hv
  have HA := Lib.hid h
  have HI := Lib.hid hI
  have HC := Lib.hid hc
  have HD := Lib.hid hd
  clear hv h hI hc hd
  go_enter Try.func21, Try.ntmps21
  go_wp2_with fail
  go_loopw [5, 10] (fun s5 s10 wr => ∃ (i : Nat), i ≤ l.length ∧ s10 = .int .i64 i ∧ s5 = .int .i64 ((missC S W L xss (l.take i)).1 : Int) ∧ ∃ F', CacheAt wr pb S W L (missC S W L xss (l.take i)).2 F' ∧ Chg F w wr ∧ (∀ k, F' k → F k ∨ w.heap.size ≤ k)) (fun _ s10 _ => l.length - (intOf s10).toNat)
  case atStart => exact ⟨0, Nat.zero_le _, rfl, rfl, F, HC.out, Chg.refl _ _, fun _ h => .inl h⟩
  case round =>
    obtain ⟨i, hi, rfl, rfl, F', hc, hg, hf⟩ := hrel
    by_cases hlt : i < l.length
    · obtain ⟨b, off, rfl, hx'⟩ := (HA.out.chg hg HD.out).at hlt
      have hr := HI.out.at hlt
      have hle := missC_le S W L xss (l.take i)
      rw [List.length_take] at hle
      have HS := Lib.hid (show missC S W L xss (l.take (i + 1)) = missA S W L (missC S W L xss (l.take i)) (l.getD i 0) from foldl_take_succ (missA S W L) (0, xss) l 0 i hlt)
      generalize l.getD i 0 = x at *
      generalize missC S W L xss (l.take i) = r at *
      obtain ⟨n, s⟩ := r
      have HAC := Lib.hid (access_any hc HV.out x hr.2)
      have HGR := Lib.hid hg
      have HFR := Lib.hid hf
      have hxl := hr.1
      have hxu := hr.2
      have hn : n ≤ i := by simp at hle; omega
      clear hg hf hr hle
      by_cases h0 : 0 ≤ x
      · obtain ⟨hb, hhb⟩ : ∃ hb, hitA S L s x = hb := ⟨_, rfl⟩
        have hs2 : (missA S W L (n, s) x) = ((if hb then n else n + 1), stepA S W L s x) := by
          have hx0 : ¬ x < 0 := by omega
          have hhb' := hhb
          unfold hitA at hhb'
          rw [if_neg hx0] at hhb'
          simp only [missA, stepA, if_neg hx0, hhb']
        rw [show (n, s).2 = s from rfl, hhb] at HAC
        have HS2 := Lib.hid hs2
        clear hhb hs2
        clear hc
        cases hb
        all_goals
          go_wp2_with (first | (go_at_call 23; go_must (refine HAC.out.mono ?_); rintro e w3 ⟨rfl, F3, hc3, hg3, ho3⟩))
          go_roundw
          case rel =>
            refine ⟨i + 1, by omega, by go_num, by rw [HS.out, HS2.out]; first | rfl | go_num, F3, by rw [HS.out, HS2.out]; exact hc3, HGR.out.trans hg3 HFR.out, fun k hk => ?_⟩
            rcases ho3 k hk with o | o
            · exact HFR.out k o
            · exact .inr (Nat.le_trans HGR.out.size o)
          case measure => simp [intOf]; omega
      · have hs2 : (missA S W L (n, s) x) = (n, s) := by unfold missA; rw [if_pos (by omega)]
        have HS2 := Lib.hid hs2
        have HCC := Lib.hid hc
        have hd0 : decide (0 ≤ x) = false := decide_eq_false h0
        clear hs2 hc
        go_wp2_with fail
        go_roundw
        case rel => exact ⟨i + 1, by omega, by go_num, by rw [HS.out, HS2.out], F', by rw [HS.out, HS2.out]; exact HCC.out, HGR.out, HFR.out⟩
        case measure => simp [intOf]; omega
    · go_wp2_with fail
      go_ret
      have hin : i = l.length := by omega
      rw [hin, List.take_length] at hc
      exact ⟨by rw [hin, List.take_length]; rfl, F', hc, hg, hf⟩

/-! ### Ints -/
set_option maxHeartbeats 1000000 in
theorem ints_any {N N' : Nat} (a : Option Addr) (c : Nat) (l : List Int) (a' : Option Addr) (c' : Nat) (l' : List Int) (w : World) (h : ArgI N w a l) (h' : ArgI N' w a' l') (hl : (l.length : Int) ≤ 9223372036854775807) (hl' : (l'.length : Int) ≤ 9223372036854775807) :
    Calls Try.prog 29 #[.slice a l.length c, .slice a' l'.length c'] w fun e w' => e = .returned (.bool (decide (l = l'))) ∧ Below w.heap.size w w' := by
  have HA := Lib.hid h
  have HA' := Lib.hid h'
  clear h h'
  by_cases hlen : l.length = l'.length
  · have hne : ((l.length : Int) != (l'.length : Int)) = false := by simp [hlen]
    have HL := Lib.hid hlen
    clear hlen
    go_enter Try.func29, Try.ntmps29
    go_wp2_with fail
    go_loopw [5] (fun s5 wr => ∃ i : Nat, i ≤ l.length ∧ s5 = .int .i64 i ∧ l.take i = l'.take i ∧ Below w.heap.size w wr) (fun s5 _ => l.length - (intOf s5).toNat)
    case atStart => exact ⟨0, Nat.zero_le _, rfl, rfl, Below.refl _ _⟩
    case round =>
      obtain ⟨i, hi, rfl, hp, hb⟩ := hrel
      have HP := Lib.hid hp
      clear hp
      by_cases hlt : i < l.length
      · have hlt' : i < l'.length := by have := HL.out; omega
        obtain ⟨b, off, rfl, hx⟩ := (HA.out.kept hb).at hlt
        obtain ⟨b', off', rfl, hx'⟩ := (HA'.out.kept hb).at hlt'
        have HX := Lib.hid (show l[i]? = some (l.getD i 0) by rw [List.getD_eq_getElem?_getD, List.getElem?_eq_getElem hlt]; rfl)
        have HX' := Lib.hid (show l'[i]? = some (l'.getD i 0) by rw [List.getD_eq_getElem?_getD, List.getElem?_eq_getElem hlt']; rfl)
        generalize l.getD i 0 = x at *
        generalize l'.getD i 0 = x' at *
        have HB := Lib.hid hb
        clear hb
        by_cases hxx : x = x'
        · have hn : (x != x') = false := by simp [hxx]
          have HXX := Lib.hid hxx
          clear hxx
          go_wp2_with fail
          go_quiet (fail)
          go_wp2_with fail
          go_roundw
          case rel => exact ⟨i + 1, by omega, by go_num, by rw [List.take_add_one, List.take_add_one, HP.out, HX.out, HX'.out, HXX.out], HB.out.trans ⟨rfl, rfl, rfl, Nat.le_refl _, fun _ _ => rfl⟩⟩
          case measure => simp [intOf]; omega
        · have hn : (x != x') = true := by simp [hxx]
          have HXX := Lib.hid hxx
          clear hxx
          go_wp2_with fail
          go_quiet (fail)
          go_wp2_with fail
          go_ret
          refine ⟨ret_bool ?_, HB.out.trans ⟨rfl, rfl, rfl, Nat.le_refl _, fun _ _ => rfl⟩⟩
          symm
          apply decide_eq_false
          intro he
          have h1 := HX.out
          rw [he, HX'.out] at h1
          exact HXX.out (Option.some.inj h1).symm
      · go_wp2_with fail
        go_ret
        refine ⟨ret_bool ?_, hb⟩
        have hin : i = l.length := by omega
        have hp := HP.out
        rw [hin, List.take_length, HL.out, List.take_length] at hp
        symm
        exact decide_eq_true hp
  · have hne : ((l.length : Int) != (l'.length : Int)) = true := by rw [bne_iff_ne]; omega
    have HL := Lib.hid hlen
    clear hlen
    go_enter Try.func29, Try.ntmps29
    go_wp2_with fail
    go_ret
    refine ⟨ret_bool ?_, Below.refl _ _⟩
    symm
    exact decide_eq_false (fun h => HL.out (by rw [h]))

end Go.Proofs.Ytgpakmcboppfhaa
