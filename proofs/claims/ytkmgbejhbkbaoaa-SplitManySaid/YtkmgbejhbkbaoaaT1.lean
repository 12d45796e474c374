/- Plain: functions that may be have nothing wrong; the chapter's example; a row of switches. -/
import Derived.Test.YtkmgbejhbkbaoaaS6
namespace Go.Proofs.Ytkmgbejhbkbaoaa
set_option linter.unusedSimpArgs false
set_option linter.unusedVariables false

theorem right_front {f : JFunc} (h : RightF f) : runC (frontC f) = none := by
  rw [frontC, runC_append]
  have h1 : runC (headC f) = none := by
    refine runC_none.2 fun c hc => ?_
    have h2 := h.params
    have h3 := h.ne
    have h4 := h.many
    have h5 := h.things
    simp only [headC, List.mem_cons, List.not_mem_nil, or_false] at hc
    rcases hc with rfl | rfl | rfl
    · simpa using h2
    · simpa using h3
    · simp only [Bool.and_eq_true, decide_eq_true_eq]; omega
  rw [h1]
  exact right_shape h
theorem right_func {f : JFunc} (h : RightF f) {idom : List Int} (hid : runC (frontC f) = none → AllR (ofF f.blocks) → IdomOk (ofF f.blocks) idom) : runC (funcC f idom) = none := by
  rw [funcC, runC_append, right_front h]
  exact right_uses h (hid (right_front h) h.reach)

/-! ### the example -/
def exF : JFunc := ⟨1, [⟨[], [], ⟨2, [0], [1, 2], 0⟩⟩, ⟨[], [], ⟨1, [], [2], 0⟩⟩, ⟨[⟨1, [⟨0, 0⟩, ⟨1, 0⟩]⟩], [], ⟨4, [1], [], 0⟩⟩]⟩
theorem ex_of : ofF exF.blocks = [[1, 2], [2], []] := by decide
theorem ex_right : RightF exF := {
  params := by decide
  ne := by decide
  many := by decide
  things := by decide
  ins := by intro x hx s hs; simp [exF] at hx; rcases hx with rfl | rfl | rfl <;> simp at hs
  term := by intro x hx; simp [exF] at hx; rcases hx with rfl | rfl | rfl <;> decide
  to := by intro x hx t ht; simp [exF] at hx; rcases hx with rfl | rfl | rfl <;> simp at ht <;> (try rcases ht with rfl | rfl) <;> (try subst ht) <;> decide
  vals := by decide
  once := by decide
  reach := by
    rw [ex_of]
    refine ⟨by decide, fun x hx => ?_⟩
    have h0 : Rch [[1, 2], [2], []] 0 0 := .refl
    have h1 : Rch [[1, 2], [2], []] 0 1 := h0.step (by simp [Ed])
    have h2 : Rch [[1, 2], [2], []] 0 2 := h0.step (by simp [Ed])
    simp at hx
    rcases x with _ | _ | _ | x
    · exact h0
    · exact h1
    · exact h2
    · omega
  phis := by
    intro b hb p hp
    rw [ex_of]
    have hb' : b < 3 := hb
    rcases b with _ | _ | _ | b
    · simp [exF] at hp
    · simp [exF] at hp
    · simp [exF] at hp
      subst hp
      decide
    · omega
  useP := by
    intro b hb p hp n hn a ha _
    have hb' : b < 3 := hb
    refine .inl ?_
    rcases b with _ | _ | _ | b
    · simp [exF] at hp
    · simp [exF] at hp
    · simp [exF] at hp
      subst hp
      simp at hn
      rcases hn with rfl | rfl <;> decide
    · omega
  useI := by
    intro b hb i hi
    have hb' : b < 3 := hb
    rcases b with _ | _ | _ | b
    · simp [exF] at hi
    · simp [exF] at hi
    · simp [exF] at hi
    · omega
  useT := by
    intro b hb v hv
    have hb' : b < 3 := hb
    rcases b with _ | _ | _ | b
    · simp [exF] at hv
      subst hv
      exact .inl (by decide)
    · simp [exF] at hv
    · simp [exF] at hv
      subst hv
      exact .inr ⟨2, -1, ⟨by decide, .inl ⟨0, by decide, by decide, by decide⟩⟩, .inl ⟨rfl, .inr (by decide)⟩⟩
    · omega }
theorem sortIn_eq {xs zs : List JIn} (hnd : (xs.map (·.src)).Nodup) (hp : zs.Perm xs) (hs : zs.Pairwise fun x y => x.src ≤ y.src) : sortIn xs = zs := by
  have h1 : (sortIn xs).Perm xs := List.mergeSort_perm _ _
  have h2 : (sortIn xs).Pairwise fun x y => x.src ≤ y.src := by
    have := List.pairwise_mergeSort (le := fun x y : JIn => decide (x.src ≤ y.src)) (fun a b c => by simp; omega) (fun a b => by simp; omega) xs
    exact this.imp fun h => by simpa using h
  refine List.Perm.eq_of_pairwise (le := fun x y : JIn => x.src ≤ y.src) (fun a b ha hb hab hba => ?_) h2 hs (h1.trans hp.symm)
  have ha' := h1.mem_iff.1 ha
  have hb' := hp.mem_iff.1 hb
  obtain ⟨i, hi, rfl⟩ := List.getElem_of_mem ha'
  obtain ⟨j, hj, rfl⟩ := List.getElem_of_mem hb'
  have e : xs[i].src = xs[j].src := by omega
  have a1 := List.Nodup.idxOf_getElem hnd i (by simpa using hi)
  have a2 := List.Nodup.idxOf_getElem hnd j (by simpa using hj)
  simp only [List.getElem_map, e] at a1 a2
  have : i = j := a1.symm.trans a2
  subst this; rfl
theorem ex_crit : critF (ofF exF.blocks) = [(0, 2)] := by rw [ex_of]; decide
theorem ex_split : splitF exF = ⟨1, [⟨[], [], ⟨2, [0], [1, 3], 0⟩⟩, ⟨[], [], ⟨1, [], [2], 0⟩⟩, ⟨[⟨1, [⟨1, 0⟩, ⟨3, 0⟩]⟩], [], ⟨4, [1], [], 0⟩⟩, ⟨[], [], ⟨1, [], [2], 0⟩⟩]⟩ := by
  unfold splitF splitBs
  rw [ex_crit]
  have h : sortIn [⟨3, 0⟩, ⟨1, 0⟩] = [⟨1, 0⟩, ⟨3, 0⟩] := sortIn_eq (by decide) (by decide) (by decide)
  have e1 : fixB 3 [(0, 2)] 2 ⟨[⟨1, [⟨0, 0⟩, ⟨1, 0⟩]⟩], [], ⟨4, [1], [], 0⟩⟩ = ⟨[⟨1, [⟨1, 0⟩, ⟨3, 0⟩]⟩], [], ⟨4, [1], [], 0⟩⟩ := by
    unfold fixB fixP
    simp only [List.map_cons, List.map_nil]
    rw [show [fixIn 3 [(0, 2)] 2 ⟨0, 0⟩, fixIn 3 [(0, 2)] 2 ⟨1, 0⟩] = [⟨3, 0⟩, ⟨1, 0⟩] from by decide, h]
  have e0 : fixB 3 [(0, 2)] 0 ⟨[], [], ⟨2, [0], [1, 2], 0⟩⟩ = ⟨[], [], ⟨2, [0], [1, 3], 0⟩⟩ := by decide
  have e2 : fixB 3 [(0, 2)] 1 ⟨[], [], ⟨1, [], [2], 0⟩⟩ = ⟨[], [], ⟨1, [], [2], 0⟩⟩ := by decide
  simp only [exF, List.length_cons, List.length_nil, List.mapIdx_cons, List.mapIdx_nil, Nat.zero_add, Nat.reduceAdd, e0, e1, e2, List.map_cons, List.map_nil, jumpB]
  rfl

/-! ### a row of switches -/
def swB (n j : Nat) : JBlock := ⟨[], [], ⟨2, [0], [((j + 1 : Nat) : Int), (n : Int)], 0⟩⟩
def jmpB (n : Nat) : JBlock := ⟨[], [], ⟨1, [], [(n : Int)], 0⟩⟩
def retB : JBlock := ⟨[], [], ⟨4, [], [], 0⟩⟩
def manyB (n : Nat) : List JBlock := ((List.range n).map (swB n) ++ [retB]).set (n - 1) (jmpB n)
def manyRow (n a : Nat) : List Nat := if a + 1 < n then [a + 1, n] else if a + 1 = n then [n] else []
@[simp] theorem manyB_len (n : Nat) : (manyB n).length = n + 1 := by simp [manyB]
theorem manyB_get {n a : Nat} (ha : a < n + 1) (h1 : 0 < n) : (manyB n)[a]'(by simpa using ha) = if a + 1 < n then swB n a else if a + 1 = n then jmpB n else retB := by
  simp only [manyB, List.getElem_set]
  by_cases e1 : n - 1 = a
  · rw [if_pos e1, if_neg (by omega), if_pos (by omega)]
  · rw [if_neg e1]
    by_cases e2 : a < n
    · rw [List.getElem_append_left (by simpa using e2), if_pos (by omega)]
      simp
    · rw [List.getElem_append_right (by simpa using e2), if_neg (by omega), if_neg (by omega)]
      simp
theorem kept_two {a n m : Nat} (h1 : a < n) (h2 : n < m) : keptF [(a : Int), (n : Int)] m = [a, n] := by
  refine List.Perm.eq_of_pairwise (le := (· < ·)) (fun a b _ _ h1 h2 => by omega) (keptF_sorted _ _) (by simp; omega) ?_
  refine (List.perm_ext_iff_of_nodup ((keptF_sorted _ _).imp fun h => by omega) (by simp; omega)).2 fun x => ?_
  rw [mem_keptF]; simp; omega
theorem kept_one {n m : Nat} (h2 : n < m) : keptF [(n : Int)] m = [n] := by
  refine List.Perm.eq_of_pairwise (le := (· < ·)) (fun a b _ _ h1 h2 => by omega) (keptF_sorted _ _) (by simp) ?_
  refine (List.perm_ext_iff_of_nodup ((keptF_sorted _ _).imp fun h => by omega) (by simp)).2 fun x => ?_
  rw [mem_keptF]; simp; omega
theorem many_of {n : Nat} (h1 : 0 < n) : ofF (manyB n) = (List.range (n + 1)).map (manyRow n) := by
  refine List.ext_getElem (by simp) fun a h2 h3 => ?_
  have ha : a < n + 1 := by simpa using h3
  simp only [ofF, List.getElem_map, List.getElem_range, manyB_len]
  rw [manyB_get ha h1]
  unfold manyRow
  by_cases e1 : a + 1 < n
  · rw [if_pos e1, if_pos e1]
    exact kept_two e1 (by omega)
  · rw [if_neg e1, if_neg e1]
    by_cases e2 : a + 1 = n
    · rw [if_pos e2, if_pos e2]
      exact kept_one (by omega)
    · rw [if_neg e2, if_neg e2]
      simp [retB, keptF]
theorem many_ed {n a b : Nat} (h1 : 0 < n) : Ed (ofF (manyB n)) a b ↔ a < n + 1 ∧ b ∈ manyRow n a := by
  rw [many_of h1, Ed, List.getD_eq_getElem?_getD, List.getElem?_map]
  by_cases ha : a < n + 1
  · simp [ha]
  · rw [List.getElem?_eq_none (by simpa using ha)]; simp [ha]
theorem many_row {n a b : Nat} : b ∈ manyRow n a ↔ (a + 1 < n ∧ (b = a + 1 ∨ b = n)) ∨ (a + 1 = n ∧ b = n) := by
  unfold manyRow
  split
  · simp; omega
  · split
    · simp; omega
    · simp; omega
theorem many_preds {n b : Nat} (h1 : 1 < n) (hb : b < n + 1) : 1 < (prd (ofF (manyB n)) b).length ↔ b = n := by
  have hs := prd_sorted (ofF_good (manyB n)) b
  have hm : ∀ x, x ∈ prd (ofF (manyB n)) b ↔ x < n + 1 ∧ b ∈ manyRow n x := fun x => by rw [mem_prd (by simpa using hb), many_ed (by omega)]
  constructor
  · intro h
    have h2 := (hm _).1 (List.getElem_mem (show 0 < (prd (ofF (manyB n)) b).length by omega))
    have h3 := (hm _).1 (List.getElem_mem h)
    have h4 := List.pairwise_iff_getElem.1 hs 0 1 (by omega) h (by omega)
    rw [many_row] at h2 h3
    omega
  · rintro rfl
    have h2 : 0 ∈ prd (ofF (manyB b)) b := (hm 0).2 ⟨by omega, by rw [many_row]; omega⟩
    have h3 : 1 ∈ prd (ofF (manyB b)) b := (hm 1).2 ⟨by omega, by rw [many_row]; omega⟩
    obtain ⟨i, hi, e1⟩ := List.getElem_of_mem h2
    obtain ⟨j, hj, e2⟩ := List.getElem_of_mem h3
    rcases Nat.lt_or_ge 1 (prd (ofF (manyB b)) b).length with h | h
    · exact h
    · have : i = j := by omega
      subst this
      omega
theorem many_crit {n : Nat} (h1 : 1 < n) : (critF (ofF (manyB n))).length = n - 1 := by
  have hg := ofF_good (manyB n)
  have hx := (edgesF_lex hg).filter (isCrit (ofF (manyB n)) (predsF (ofF (manyB n))))
  have hm : ∀ e, e ∈ critF (ofF (manyB n)) ↔ e.1 < n - 1 ∧ e.2 = n := by
    rintro ⟨a, b⟩
    unfold critF
    rw [List.mem_filter, mem_edgesF, many_ed (by omega)]
    simp only [isCrit, Bool.and_eq_true, decide_eq_true_eq]
    constructor
    · rintro ⟨⟨h2, h3⟩, h4, h5⟩
      have hb : b < n + 1 := by rw [many_row] at h3; omega
      have h6 := (many_preds h1 hb).1 h5
      refine ⟨?_, h6⟩
      have h7 : (ofF (manyB n)).getD a [] = manyRow n a := by
        rw [many_of (by omega), List.getD_eq_getElem?_getD, List.getElem?_map, List.getElem?_range h2]; rfl
      rw [h7] at h4
      unfold manyRow at h4
      split at h4
      · omega
      · split at h4 <;> simp at h4
    · rintro ⟨h2, rfl⟩
      refine ⟨⟨by omega, by rw [many_row]; omega⟩, ?_, (many_preds h1 (by omega)).2 rfl⟩
      rw [many_of (by omega), List.getD_eq_getElem?_getD, List.getElem?_map, List.getElem?_range (by omega)]
      simp [manyRow, show a + 1 < b by omega]
  have hp : (critF (ofF (manyB n))).Perm ((List.range (n - 1)).map fun a => (a, n)) := by
    refine (List.perm_ext_iff_of_nodup (crit_nodup hg) ?_).2 fun e => ?_
    · unfold List.Nodup
      rw [List.pairwise_map]
      exact List.pairwise_lt_range.imp fun h he => by injection he; omega
    · rw [hm]
      obtain ⟨a, b⟩ := e
      simp only [List.mem_map, List.mem_range, Prod.mk.injEq]
      constructor
      · rintro ⟨h2, rfl⟩; exact ⟨a, h2, rfl, rfl⟩
      · rintro ⟨c, h2, rfl, rfl⟩; exact ⟨h2, rfl⟩
  rw [hp.length_eq]; simp
theorem many_mem {n : Nat} (h1 : 0 < n) {x : JBlock} (hx : x ∈ manyB n) : ∃ a, a < n + 1 ∧ x = if a + 1 < n then swB n a else if a + 1 = n then jmpB n else retB := by
  obtain ⟨a, ha, rfl⟩ := List.getElem_of_mem hx
  have ha' : a < n + 1 := by simpa using ha
  exact ⟨a, ha', manyB_get ha' h1⟩
theorem many_cases {n : Nat} (h1 : 0 < n) {x : JBlock} (hx : x ∈ manyB n) : (∃ a, a + 1 < n ∧ x = swB n a) ∨ x = jmpB n ∨ x = retB := by
  obtain ⟨a, ha, rfl⟩ := many_mem h1 hx
  split
  · rename_i h; exact .inl ⟨a, h, rfl⟩
  · split
    · exact .inr (.inl rfl)
    · exact .inr (.inr rfl)
theorem many_things {n : Nat} (h1 : 0 < n) : thingsN (manyB n) = 0 := by
  unfold thingsN
  have : (manyB n).map (fun b => b.phis.length + b.ins.length) = List.replicate (n + 1) 0 := by
    refine List.eq_replicate_iff.2 ⟨by simp, fun y hy => ?_⟩
    obtain ⟨x, hx, rfl⟩ := List.mem_map.1 hy
    rcases many_cases h1 hx with ⟨a, _, rfl⟩ | rfl | rfl <;> rfl
  rw [this]; simp
theorem many_right {n : Nat} (h1 : 1 < n) (h2 : n < 512) : RightF ⟨1, manyB n⟩ := {
  params := ⟨by simp, by simp⟩
  ne := by simp
  many := by simp; omega
  things := by rw [many_things (by omega)]; simp; omega
  ins := by intro x hx s hs; rcases many_cases (by omega) hx with ⟨a, _, rfl⟩ | rfl | rfl <;> simp [swB, jmpB, retB] at hs
  term := by intro x hx; rcases many_cases (by omega) hx with ⟨a, _, rfl⟩ | rfl | rfl <;> rfl
  to := by
    intro x hx t ht
    simp only [manyB_len]
    rcases many_cases (by omega) hx with ⟨a, ha, rfl⟩ | rfl | rfl
    · simp [swB] at ht; omega
    · simp [jmpB] at ht; omega
    · simp [retB] at ht
  vals := by
    intro v hv
    obtain ⟨x, hx, hv⟩ := List.mem_flatMap.1 hv
    rcases many_cases (by omega) hx with ⟨a, _, rfl⟩ | rfl | rfl <;> simp [valsB, swB, jmpB, retB] at hv
  once := by
    have : valsF (manyB n) = [] := by
      unfold valsF
      rw [List.flatMap_eq_nil_iff]
      intro x hx
      rcases many_cases (by omega) hx with ⟨a, _, rfl⟩ | rfl | rfl <;> rfl
    rw [this]; simp
  reach := by
    refine ⟨by simp, fun x hx => ?_⟩
    simp only [ofF_len, manyB_len] at hx
    have key : ∀ x, x < n → Rch (ofF (manyB n)) 0 x := by
      intro x
      induction x with
      | zero => intro _; exact .refl
      | succ x ih =>
        intro hx
        exact (ih (by omega)).step ((many_ed (by omega)).2 ⟨by omega, by rw [many_row]; omega⟩)
    rcases Nat.lt_or_ge x n with h | h
    · exact key x h
    · have : x = n := by omega
      subst this
      exact (key 0 (by omega)).step ((many_ed (by omega)).2 ⟨by omega, by rw [many_row]; omega⟩)
  phis := by intro b hb p hp; rcases many_cases (by omega) (List.getElem_mem hb) with ⟨a, _, h⟩ | h | h <;> (simp only at hp; rw [h] at hp; simp [swB, jmpB, retB] at hp)
  useP := by intro b hb p hp; rcases many_cases (by omega) (List.getElem_mem hb) with ⟨a, _, h⟩ | h | h <;> (simp only at hp; rw [h] at hp; simp [swB, jmpB, retB] at hp)
  useI := by
    intro b hb i hi
    exfalso
    rcases many_cases (by omega) (List.getElem_mem hb) with ⟨a, _, h⟩ | h | h <;> (simp only at hi; rw [h] at hi; simp [swB, jmpB, retB] at hi)
  useT := by
    intro b hb v hv
    rcases many_cases (by omega) (List.getElem_mem hb) with ⟨a, _, h⟩ | h | h
    · simp only at hv; rw [h] at hv; simp [swB] at hv; subst hv; exact .inl ⟨by simp, by simp⟩
    · simp only at hv; rw [h] at hv; simp [jmpB] at hv
    · simp only at hv; rw [h] at hv; simp [retB] at hv }
end Go.Proofs.Ytkmgbejhbkbaoaa
