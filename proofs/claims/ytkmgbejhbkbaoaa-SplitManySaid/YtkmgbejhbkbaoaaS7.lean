/- The program's split: a phi's numbers sorted. -/
import Derived.Test.YtkmgbejhbkbaoaaS5
import Derived.Test.YtkmgbejhbkbaoaaShelf2
import Derived.Shelf.SlSortCmp.NoneTotal
namespace Go.Proofs.Ytkmgbejhbkbaoaa
set_option linter.unusedSimpArgs false
set_option linter.unusedVariables false
open Go.RowKit Go.Sort Go.Shelf

abbrev InS := { x : JIn // 0 ≤ x.src ∧ x.src ≤ 1073741824 }
instance : Inhabited InS := ⟨⟨⟨0, 0⟩, by decide⟩⟩
def encIn (x : InS) : List Value := [.int .i64 x.1.src, .int .i64 x.1.val]
def cmpIn (x y : InS) : Int := x.1.src - y.1.src
theorem ltIn (x y : InS) : ltOf cmpIn x y = decide (x.1.src < y.1.src) := by
  unfold ltOf cmpIn
  rw [decide_eq_decide]; omega
theorem swoIn : SWO (ltOf cmpIn) := {
  irrefl x := by rw [ltIn]; simp
  trans x y z h1 h2 := by rw [ltIn] at *; simp at *; omega
  ntrans x y z h1 h2 := by rw [ltIn] at *; simp at *; omega }
set_option maxRecDepth 20000 in
theorem cmp_calls (x y : InS) (W : World) : Calls Try.prog 34 #[.agg #[.int .i64 x.1.src, .int .i64 x.1.val], .agg #[.int .i64 y.1.src, .int .i64 y.1.val]] W fun e w' => e = .returned (.int .i64 (cmpIn x y)) ∧ ∃ q os', w' = grow (W.drewN q) os' := by
  obtain ⟨⟨xs, xv⟩, hx⟩ := x
  obtain ⟨⟨ys, yv⟩, hy⟩ := y
  obtain ⟨hx1, hx2⟩ := hx
  obtain ⟨hy1, hy2⟩ := hy
  have hx1' : 0 ≤ xs := hx1
  have hx2' : xs ≤ 1073741824 := hx2
  have hy1' : 0 ≤ ys := hy1
  have hy2' : ys ≤ 1073741824 := hy2
  simp only at *
  have hc : cmpIn ⟨⟨xs, xv⟩, hx1, hx2⟩ ⟨⟨ys, yv⟩, hy1, hy2⟩ = xs - ys := rfl
  rw [hc]
  clear hc
  have hwr : wrap64 (xs - ys) = xs - ys := by unfold wrap64; omega
  go_enter Try.func34, Try.ntmps34
  go_wp2
  go_ret
  exact ⟨rfl, 0, _, by rw [alloc_eq_grow, alloc_eq_grow, grow_grow]; rfl⟩
theorem in_split : ∀ (xs : List JIn), (∀ x ∈ xs, 0 ≤ x.src ∧ x.src ≤ 1073741824) → ∃ ys : List InS, ys.map (·.1) = xs
  | [], _ => ⟨[], rfl⟩
  | x :: xs, h => by
    obtain ⟨ys, hy⟩ := in_split xs fun y hy => h y (by simp [hy])
    exact ⟨⟨x, h x (by simp)⟩ :: ys, by simp [hy]⟩
theorem aggIn : ∀ w, (isAgg (Try.sortIn_ren.t 24)).run Try.prog w = .ok true w := fun _ => by kernel_rfl
theorem sizeIn : ∀ w, (Go.sizeOf (Try.sortIn_ren.t 24)).run Try.prog w = .ok 2 w := fun _ => by kernel_rfl

theorem flat_at (d : Array InS) (i : Nat) (hi : i < d.size) (j : Nat) (hj : j < 2) : (flatK encIn 2 d)[i * 2 + j]! = (encIn d[i]!)[j]! := by
  rw [get_flatK _ _ _ _ (by omega)]
  have h1 : (i * 2 + j) / 2 = i := by omega
  have h2 : (i * 2 + j) % 2 = j := by omega
  rw [h1, h2]
/-- the row behind the sort -/
theorem put_cut (C : Array Value) (d : Array InS) (hC : d.size * 2 ≤ C.size) (i : Nat) (hi : i < d.size) : ((putCells id 0 (flatK encIn 2 d) C).toList.drop (i * 2)).take 2 = encIn d[i]! := by
  have hsz : (flatK encIn 2 d).size = d.size * 2 := size_flatK _ _ _
  refine List.ext_getElem? fun j => ?_
  by_cases hj : j < 2
  · rw [List.getElem?_take_of_lt hj, List.getElem?_drop, Array.getElem?_toList]
    have h1 := flat_at d i hi j hj
    have h2 : i * 2 + j < C.size := by omega
    have h3 : (putCells id 0 (flatK encIn 2 d) C)[i * 2 + j]? = some ((flatK encIn 2 d)[i * 2 + j]!) := by
      simp only [putCells, Array.getElem?_mapIdx, Array.getElem?_eq_getElem h2, Option.map_some, Nat.zero_le, true_and, Nat.zero_add, Nat.sub_zero, id, hsz]
      rw [if_pos (by omega)]
    rw [h3, h1]
    rcases j with _ | _ | j
    · rfl
    · rfl
    · omega
  · rw [List.getElem?_take_eq_none (by omega), List.getElem?_eq_none (by simp [encIn]; omega)]
theorem sortIn_uniq {xs zs : List JIn} (hnd : (xs.map (·.src)).Nodup) (hp : zs.Perm xs) (hs : zs.Pairwise fun x y => x.src ≤ y.src) : zs = sortIn xs := by
  have h1 : (sortIn xs).Perm xs := List.mergeSort_perm _ _
  have h2 : (sortIn xs).Pairwise fun x y => x.src ≤ y.src := by
    have := List.pairwise_mergeSort (le := fun x y : JIn => decide (x.src ≤ y.src)) (fun a b c => by simp; omega) (fun a b => by simp; omega) xs
    exact this.imp fun h => by simpa using h
  refine List.Perm.eq_of_pairwise (le := fun x y : JIn => x.src ≤ y.src) (fun a b ha hb hab hba => ?_) hs h2 (hp.trans h1.symm)
  have ha' := hp.mem_iff.1 ha
  have hb' := h1.mem_iff.1 hb
  obtain ⟨i, hi, rfl⟩ := List.getElem_of_mem ha'
  obtain ⟨j, hj, rfl⟩ := List.getElem_of_mem hb'
  have e : xs[i].src = xs[j].src := by omega
  have a1 := List.Nodup.idxOf_getElem hnd i (by simpa using hi)
  have a2 := List.Nodup.idxOf_getElem hnd j (by simpa using hj)
  simp only [List.getElem_map, e] at a1 a2
  have : i = j := a1.symm.trans a2
  subst this; rfl
theorem sortIn_calls {w : World} {S : List Nat} {v : Value} {xs : List JIn} (h : SlR kIn 49 w S v xs) (hn : xs.length ≤ 1073741824) (hnd : (xs.map (·.src)).Nodup) (hb : ∀ x ∈ xs, 0 ≤ x.src ∧ x.src ≤ 1073741824) :
    Calls Try.prog 33 #[v, .func (.func 34) #[] #[]] w fun e w' => e = .returned (.tuple #[]) ∧ SlR kIn 49 w' S v (sortIn xs) ∧ Ext S w w' := by
  by_cases h0 : xs = []
  · subst h0
    obtain ⟨A, cap, rfl, _⟩ := h.shape
    have hcon := AnyF.slices_SortFunc_none Try.sortIn A cap (.func (.func 34) #[] #[]) w
    change Calls Try.prog 33 _ _ _ at hcon
    refine hcon.mono ?_
    rintro e w' ⟨rfl, rfl⟩
    exact ⟨rfl, by simpa [sortIn] using h, Ext.refl _ _⟩
  · rcases h with ⟨A, rfl, rfl, rfl⟩ | ⟨g, cap, C, Ss, rfl, hc0, h1, h2, hbk, hC, hgn, rfl, hE⟩
    · exact absurd rfl h0
    obtain ⟨ys, rfl⟩ := in_split xs hb
    rw [List.length_map] at *
    have hsz : C.size = cap * 2 := hC
    have hcell : ∀ i (hi : i < ys.length), (C.toList.drop (i * 2)).take 2 = encIn ys[i] := by
      intro i hi
      obtain ⟨Si, hSi, hr⟩ := hE.2 i ((ys.map (·.1))[i]'(by simpa using hi)) (by simp [hi])
      have := hr.2
      simpa [kIn, encIn] using this
    have hSs : Ss.flatten = [] := by
      rw [List.flatten_eq_nil_iff]
      intro l hl
      obtain ⟨i, hi, rfl⟩ := List.getElem_of_mem hl
      have hi' : i < (ys.map (·.1)).length := by rw [← hE.1]; exact hi
      obtain ⟨Si, hSi, hr⟩ := hE.2 i (ys.map (·.1))[i] (List.getElem?_eq_getElem hi')
      rw [List.getElem?_eq_getElem hi] at hSi
      injection hSi with hSi
      rw [hSi]; exact hr.1
    have hH : HoldsK encIn 2 w g 0 ys.toArray := by
      intro j hj
      have hj : j < ys.length * 2 := by simpa using hj
      have hi : j / 2 < ys.length := by omega
      have hm : j % 2 < 2 := by omega
      refine ⟨?_, hbk.frozen _⟩
      rw [Nat.zero_add]
      refine hbk.cell ?_
      have h3 := congrArg (fun l => l[j % 2]?) (hcell (j / 2) hi)
      rw [List.getElem?_take_of_lt hm, List.getElem?_drop, Array.getElem?_toList, show j / 2 * 2 + j % 2 = j from by omega] at h3
      rw [h3]
      have h4 := flat_at ys.toArray (j / 2) (by simpa using hi) (j % 2) hm
      rw [show j / 2 * 2 + j % 2 = j from by omega] at h4
      rw [show (id (flatK encIn 2 ys.toArray)[j]! : Value) = (flatK encIn 2 ys.toArray)[j]! from rfl, h4]
      have h5 : ys.toArray[j / 2]! = ys[j / 2] := by simp [hi]
      rw [h5]
      rcases Nat.mod_two_eq_zero_or_one j with h6 | h6 <;> rw [h6] <;> rfl
    have eg : ∀ args w, (callFunc 34 args).run Try.prog w = .ok (.enter 34 args) w := enters_of Try.func34 (by kernel_rfl) rfl
    have hcon := AnyQ.slices_SortFunc Try.sortIn 2 aggIn sizeIn encIn (fun _ => rfl) (fun x v hv => by simp [encIn] at hv; rcases hv with rfl | rfl <;> rfl) cmpIn swoIn 34 #[] g 0 cap ys.toArray w eg (fun _ _ _ _ x y => cmp_calls x y _) hH hbk.lt (by simp; omega)
    change Calls Try.prog 33 _ _ _ at hcon
    rw [List.size_toArray] at hcon
    refine hcon.mono ?_
    rintro e w' ⟨rfl, d', n, os, hperm, hsrt, rfl⟩
    obtain ⟨hp1, _, hp2⟩ := hperm
    have hdl : d'.size = ys.length := by simpa using hp1
    have hperm' : d'.toList.Perm ys := by
      have e1 : (d'.extract 0 ys.length).toList = d'.toList := by simp [← hdl]
      have e2 : (ys.toArray.extract 0 ys.length).toList = ys := by simp
      rw [e1, e2] at hp2
      exact hp2
    have hzs : d'.toList.map (·.1) = sortIn (ys.map (·.1)) := by
      refine sortIn_uniq hnd (hperm'.map _) ?_
      rw [List.pairwise_map, List.pairwise_iff_getElem]
      intro i j hi hj hij
      have hj' : j < d'.size := by simpa using hj
      have := hsrt i j (Nat.zero_le _) hij (by simpa [← hdl] using hj')
      rw [ltIn] at this
      have e1 : d'[j]! = d'[j] := getElem!_pos d' j hj'
      have e2 : d'[i]! = d'[i]'(by omega) := getElem!_pos d' i (by omega)
      rw [e1, e2] at this
      simp at this
      simpa using this
    refine ⟨rfl, ?_, ?_⟩
    · rw [← hzs]
      have hl : (d'.toList.map (·.1)).length = ys.length := by simp [hdl]
      have hblk : Blk (sortWorldK encIn 2 w g 0 n d' os) g 49 (putCells id 0 (flatK encIn 2 d') C) := by
        unfold Blk sortWorldK putRowK
        rw [heap_grow_old _ _ (by simpa [putRow, mapBlock, Sort.ahead] using hbk.lt)]
        simp [putRow, mapBlock, Sort.ahead, Array.getElem?_modify, show w.heap[g]? = _ from hbk, onCells]
      refine .inr ⟨g, cap, _, Ss, by rw [hl], hc0, by rw [hl]; exact h1, h2, hblk, by simpa [putCells] using hC, hgn, rfl, ?_⟩
      refine ⟨by rw [hE.1, hl, List.length_map], fun i x hx => ?_⟩
      have hi : i < ys.length := by rw [← hl]; exact (List.getElem?_eq_some_iff.1 hx).1
      obtain ⟨Si, hSi, hr⟩ := hE.2 i ((ys.map (·.1))[i]'(by simpa using hi)) (by simp [hi])
      refine ⟨Si, hSi, hr.1, ?_⟩
      have h3 := put_cut C d' (by omega) i (by omega)
      have e2 : d'[i]! = d'[i]'(by omega) := getElem!_pos d' i (by omega)
      rw [e2] at h3
      have hx' : x = d'[i].1 := by
        have := (List.getElem?_eq_some_iff.1 hx).2
        rw [← this]; simp
      rw [hx']
      exact h3
    · rw [hSs]
      refine ⟨rfl, rfl, rfl, by simp [sortWorldK, putRowK, putRow, mapBlock, Sort.ahead, grow], fun k hk hne => ?_⟩
      unfold sortWorldK putRowK
      rw [heap_grow_old _ _ (by simpa [putRow, mapBlock, Sort.ahead] using hk)]
      have : g ≠ k := fun e => hne (by rw [e]; simp)
      simp [putRow, mapBlock, Sort.ahead, Array.getElem?_modify, this]
end Go.Proofs.Ytkmgbejhbkbaoaa
