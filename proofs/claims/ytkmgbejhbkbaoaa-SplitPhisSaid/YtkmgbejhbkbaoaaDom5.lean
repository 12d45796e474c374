/- Parts joined by program: R4, N17, N18, N19, N20, L10. -/
import Derived.Test.YtkmgbejhbkbaoaaDom4
/- Plain: the maker's states: its phis, its turns, what the phis take. -/
namespace Go.Proofs.Ytkmgbejhbkbaoaa
set_option linter.unusedSimpArgs false
set_option linter.unusedVariables false

theorem valsF_mod : ∀ (bs : List JBlock) (b : Nat) (hb : b < bs.length) (f : JBlock → JBlock) (add : List Int), (valsB (f bs[b])).Perm (valsB bs[b] ++ add) → (valsF (bs.modify b f)).Perm (valsF bs ++ add)
  | [], b, hb, _, _, _ => by simp at hb
  | x :: bs, 0, _, f, add, h => by
    simp only [valsF, List.modify_zero_cons, List.flatMap_cons, List.append_assoc]
    simp only [List.getElem_cons_zero] at h
    exact (h.append_right _).trans (by rw [List.append_assoc]; exact List.Perm.append_left _ List.perm_append_comm)
  | x :: bs, b + 1, hb, f, add, h => by
    simp only [valsF, List.modify_succ_cons, List.flatMap_cons, List.append_assoc]
    exact List.Perm.append_left _ (valsF_mod bs b (by simpa using hb) f add (by simpa using h))

theorem to_bound {n m : Nat} {R : List (List Int)} {bs : List JBlock} (hR : TR n m n R) (h : bs.map (·.term.to) = R) : ∀ x ∈ bs, x.term.to.length ≤ m ∧ ∀ t ∈ x.term.to, 1 ≤ t ∧ t < (n : Int) := fun x hx => by
  have hm : x.term.to ∈ R := by rw [← h]; exact List.mem_map.2 ⟨x, hx, rfl⟩
  exact ⟨hR.2.1 _ hm, hR.2.2.1 _ hm⟩
/-! ### phis -/
def MSt.addPhi (st : MSt) (b : Nat) : MSt := { st with blocks := st.blocks.modify b fun x => { x with phis := x.phis ++ [⟨st.next, []⟩] }, next := st.next + 1 }
structure P1 (P n : Nat) (R : List (List Int)) (pr : List Nat) (b i : Nat) (st : MSt) : Prop where
  par : st.params = (P : Int)
  len : st.blocks.length = n
  to : st.blocks.map (·.term.to) = R
  pv : PInv (P : Int) st.blocks st.next
  ins : ∀ x ∈ st.blocks, x.ins = []
  ph : ∀ x (hx : x < st.blocks.length), st.blocks[x].phis.length = (if x < b then pr.getD x 0 else if x = b then i else 0) ∧ ∀ y ∈ st.blocks[x].phis, y.ins = []
  plen : pr.length = n
  ple : ∀ x ∈ pr, x ≤ 3
  zero : pr.getD 0 0 = 0
  nx : (P : Int) ≤ st.next ∧ st.next ≤ (P : Int) + 3 * b + i
theorem P1.start {P n : Nat} {R : List (List Int)} (hR : R.length = n) (hn : 0 < n) : P1 P n R (List.replicate n 0) 1 0 ⟨P, toB R n n, P, []⟩ := by
  have hz : ∀ x ∈ toB R n n, x.ins = [] ∧ x.phis = [] := by
    intro x hx
    simp only [toB, List.mem_map, List.mem_range] at hx
    obtain ⟨k, hk, rfl⟩ := hx
    split <;> exact ⟨rfl, rfl⟩
  have hv : valsF (toB R n n) = [] := by
    rw [valsF, List.flatMap_eq_nil_iff]
    intro x hx
    obtain ⟨h1, h2⟩ := hz x hx
    simp [valsB, h1, h2]
  refine ⟨rfl, toB_len R n n, ?_, ⟨fun x hx s hs => ?_, by rw [hv]; simp, by rw [hv]; simp, fun b hb i hi => ?_⟩, fun x hx => (hz x hx).1, fun x hx => ?_, by simp, by simp, ?_, by simp only []; omega⟩
  · refine List.ext_getElem (by simp [toB, hR]) fun k h1 h2 => ?_
    have hk : k < n := by simpa [toB] using h1
    simp [toB, hk, h2]
  · rw [(hz x hx).1] at hs; cases hs
  · rw [(hz _ (List.getElem_mem hb)).1] at hi; simp at hi
  · rw [(hz _ (List.getElem_mem hx)).2]
    refine ⟨?_, by simp⟩
    simp only [List.length_nil]
    split
    · simp [List.getD_eq_getElem?_getD, List.getElem?_replicate]; split <;> rfl
    · split <;> rfl
  · simp [List.getD_eq_getElem?_getD, List.getElem?_replicate]; split <;> rfl
section
variable {P n : Nat} {R : List (List Int)} {pr : List Nat} {b i : Nat} {st : MSt}
theorem P1.put (h : P1 P n R pr b 0 st) (k : Nat) (hk : k ≤ 3) (hb : 1 ≤ b) : P1 P n R (pr.set b k) b 0 st := by
  refine ⟨h.par, h.len, h.to, h.pv, h.ins, fun x hx => ⟨?_, (h.ph x hx).2⟩, by simpa using h.plen, fun x hx => ?_, ?_, h.nx⟩
  · rw [(h.ph x hx).1]
    split
    · rw [List.getD_eq_getElem?_getD, List.getD_eq_getElem?_getD, List.getElem?_set_ne (by omega)]
    · rfl
  · rcases List.mem_or_eq_of_mem_set hx with h1 | rfl
    · exact h.ple x h1
    · exact hk
  · rw [List.getD_eq_getElem?_getD, List.getElem?_set_ne (by omega), ← List.getD_eq_getElem?_getD]; exact h.zero
theorem P1.phi (h : P1 P n R pr b i st) (hb : b < st.blocks.length) : P1 P n R pr b (i + 1) (st.addPhi b) := by
  have hm : ∀ x ∈ (st.addPhi b).blocks, x.ins = [] := fun x hx => by
    obtain ⟨k, hk, rfl⟩ := List.getElem_of_mem hx
    have hk2 : k < st.blocks.length := by simpa [MSt.addPhi] using hk
    have h2 := h.ins _ (List.getElem_mem hk2)
    simp only [MSt.addPhi, List.getElem_modify]
    split
    · exact h2
    · exact h2
  have hp : (valsF (st.addPhi b).blocks).Perm (valsF st.blocks ++ [st.next]) := by
    refine valsF_mod st.blocks b hb _ _ ?_
    simp only [valsB, List.map_append, List.map_cons, List.map_nil, List.append_assoc]
    exact List.Perm.append_left _ List.perm_append_comm
  have hnx := h.nx
  refine ⟨h.par, by simpa [MSt.addPhi] using h.len, ?_, ⟨fun x hx s hs => ?_, fun v hv => ?_, ?_, fun b' hb' i' hi' => ?_⟩, hm, fun x hx => ?_, h.plen, h.ple, h.zero, by simp only [MSt.addPhi]; omega⟩
  · rw [← h.to]
    refine List.ext_getElem (by simp [MSt.addPhi]) fun k h1 h2 => ?_
    simp only [MSt.addPhi, List.getElem_map, List.getElem_modify]
    split <;> rfl
  · rw [hm x hx] at hs; cases hs
  · rcases List.mem_append.1 (hp.mem_iff.1 hv) with h1 | h1
    · have := h.pv.vals v h1; simp only [MSt.addPhi]; omega
    · simp at h1; subst h1; simp only [MSt.addPhi]; omega
  · refine hp.nodup_iff.2 (List.nodup_append.2 ⟨h.pv.once, by simp, ?_⟩)
    rintro v hv w hw rfl
    simp at hw
    have := h.pv.vals v hv; omega
  · rw [hm _ (List.getElem_mem hb')] at hi'; simp at hi'
  · have hx2 : x < st.blocks.length := by simpa [MSt.addPhi] using hx
    obtain ⟨h1, h2⟩ := h.ph x hx2
    simp only [MSt.addPhi, List.getElem_modify]
    split
    · rename_i e
      subst e
      simp only [Nat.lt_irrefl, if_false, if_true] at h1 ⊢
      refine ⟨by simp [h1], fun y hy => ?_⟩
      rcases List.mem_append.1 hy with hy | hy
      · exact h2 y hy
      · simp at hy; subst hy; rfl
    · rename_i e
      refine ⟨?_, h2⟩
      rw [h1]
      split
      · rfl
      · rw [if_neg (fun h => e h.symm), if_neg (fun h => e h.symm)]
theorem P1.next (h : P1 P n R pr b i st) (hi : pr.getD b 0 = i) : P1 P n R pr (b + 1) 0 st := by
  have h3 : i ≤ 3 := by
    subst hi
    by_cases hb : b < pr.length
    · rw [List.getD_eq_getElem?_getD, List.getElem?_eq_getElem hb]; exact h.ple _ (List.getElem_mem hb)
    · rw [List.getD_eq_getElem?_getD, List.getElem?_eq_none (by omega)]; simp
  have hnx := h.nx
  refine ⟨h.par, h.len, h.to, h.pv, h.ins, fun x hx => ⟨?_, (h.ph x hx).2⟩, h.plen, h.ple, h.zero, by omega⟩
  rw [(h.ph x hx).1]
  by_cases h1 : x < b
  · rw [if_pos h1, if_pos (by omega)]
  · rw [if_neg h1]
    by_cases h2 : x = b
    · subst h2; rw [if_pos rfl, if_pos (by omega), hi]
    · rw [if_neg h2, if_neg (by omega)]; split <;> rfl
end

/-! ### turns -/
structure TSt (P n : Nat) (R : List (List Int)) (pr : List Nat) (D : List Bool) (st : MSt) : Prop where
  par : st.params = (P : Int)
  len : st.blocks.length = n
  dl : D.length = n
  to : st.blocks.map (·.term.to) = R
  pv : PInv (P : Int) st.blocks st.next
  un : ∀ b (hb : b < st.blocks.length), D[b]? = some false → st.blocks[b].ins = []
  dn : ∀ b (hb : b < st.blocks.length), D[b]? = some true → termOk st.blocks[b].term = true ∧ ∀ v ∈ st.blocks[b].term.args, Stand (P : Int) st.blocks v b st.blocks[b].ins.length
  il : ∀ b (hb : b < st.blocks.length), st.blocks[b].ins.length ≤ 57
  ph : ∀ x (hx : x < st.blocks.length), st.blocks[x].phis.length = pr.getD x 0 ∧ ∀ y ∈ st.blocks[x].phis, y.ins = []
  ple : ∀ x, pr.getD x 0 ≤ 3
  zero : pr.getD 0 0 = 0
  nx : (P : Int) ≤ st.next ∧ st.next + 114 * offN D ≤ (P : Int) + 3 * n + 114 * n
theorem P1.turns {P n : Nat} {R : List (List Int)} {pr : List Nat} {st : MSt} (h : P1 P n R pr n 0 st) : TSt P n R pr (List.replicate n false) st := by
  have hnx := h.nx
  refine ⟨h.par, h.len, by simp, h.to, h.pv, fun b hb _ => h.ins _ (List.getElem_mem hb), fun b hb hd => ?_, fun b hb => by rw [h.ins _ (List.getElem_mem hb)]; simp, fun x hx => ⟨?_, (h.ph x hx).2⟩, fun x => ?_, h.zero, ?_⟩
  · rw [List.getElem?_replicate] at hd
    split at hd <;> simp at hd
  · rw [(h.ph x hx).1, if_pos (by have := h.len; omega)]
  · by_cases hb : x < pr.length
    · rw [List.getD_eq_getElem?_getD, List.getElem?_eq_getElem hb]; exact h.ple _ (List.getElem_mem hb)
    · rw [List.getD_eq_getElem?_getD, List.getElem?_eq_none (by omega)]; simp
  · rw [offN_rep]; omega
theorem Stand.endT {params : Int} {st : MSt} {b : Nat} {tm : JTerm} (hb : b < st.blocks.length) (hto : tm.to = st.blocks[b].term.to) {v : Int} {c : Nat} {at_ at2 : Int} (h : Stand params st.blocks v c at_) (hat : at_ ≤ at2) : Stand params (st.endT b tm).blocks v c at2 := by
  refine h.same (ofF_to ?_) (by simp [MSt.endT]) (fun v a p => made_map (by simp [MSt.endT]) fun i hi => ?_) hat
  · refine List.ext_getElem (by simp [MSt.endT]) fun k h1 h2 => ?_
    simp only [MSt.endT, List.getElem_map, List.getElem_modify]
    split
    · rename_i e; subst e; exact hto
    · rfl
  · simp only [MSt.endT, List.getElem_modify]
    split <;> exact ⟨rfl, rfl⟩
theorem TSt.turn {P n : Nat} {R : List (List Int)} {pr : List Nat} {D : List Bool} {st st1 : MSt} {b : Nat} {live : List Int} {tm : JTerm} (h : TSt P n R pr D st) (hb : D[b]? = some false) (hl : AtHand (P : Int) st.blocks b live) (hg : Grow b 57 { st with live := live } st1) (hto : tm.to = R.getD b [])
    (ha : ∀ y ∈ tm.args, y ∈ st1.live) (hok : termOk tm = true) : TSt P n R pr (D.set b true) (st1.endT b tm) := by
  have hbl : b < st.blocks.length := by rw [h.len, ← h.dl]; exact (List.getElem?_eq_some_iff.1 hb).1
  have hDl : b < D.length := (List.getElem?_eq_some_iff.1 hb).1
  obtain ⟨hp1, hl1⟩ := PInv.grow (st := { st with live := live }) h.pv (hl.live hbl) hg h.nx.1
  have hlen : st1.blocks.length = st.blocks.length := hg.len
  have hb1 : b < st1.blocks.length := by omega
  have hnx := hg.next
  have hoff := offN_set D b hb
  have hpar := hg.params
  obtain ⟨news, hi, a1, a2, a3, rfl⟩ := hg
  have hm1 : (MSt.grow { st with live := live } b news hi).blocks = st.blocks.modify b (more news) := rfl
  have hto1 : tm.to = ((MSt.grow { st with live := live } b news hi).blocks[b]'hb1).term.to := by
    rw [hto, ← h.to]
    simp [MSt.grow, List.getElem_modify, more, hbl]
  generalize hst1 : MSt.grow { st with live := live } b news hi = st1 at *
  have hne : ∀ k (hk : k < st.blocks.length), k ≠ b → st1.blocks[k]'(by omega) = st.blocks[k] := fun k hk e => by
    simp only [hm1, List.getElem_modify, if_neg (fun h : b = k => e h.symm)]
  have hbb : st1.blocks[b]'hb1 = more news st.blocks[b] := by simp only [hm1, List.getElem_modify, if_true]
  have hend : ∀ k (hk : k < st1.blocks.length), ((st1.endT b tm).blocks[k]'(by simpa [MSt.endT] using hk)) = if b = k then { st1.blocks[k] with term := tm } else st1.blocks[k] := fun k hk => by
    simp only [MSt.endT, List.getElem_modify]
  have htoA : (st1.endT b tm).blocks.map (·.term.to) = st1.blocks.map (·.term.to) := by
    refine List.ext_getElem (by simp [MSt.endT]) fun k h1 h2 => ?_
    have hk : k < st1.blocks.length := by simpa using h2
    simp only [List.getElem_map, hend k hk]
    split
    · rename_i e; subst e; exact hto1
    · rfl
  refine ⟨by simpa [MSt.endT] using hpar.trans h.par, by simp [MSt.endT, hlen, h.len], by simpa using h.dl, ?_, ?_, fun k hk hD => ?_, fun k hk hD => ?_, fun k hk => ?_, fun k hk => ?_, h.ple, h.zero, ?_⟩
  · rw [htoA, ← h.to, hm1]
    refine List.ext_getElem (by simp) fun k h1 h2 => ?_
    simp only [List.getElem_map, List.getElem_modify]
    split <;> rfl
  · refine hp1.same (by simp [MSt.endT]) htoA fun i hi' => ?_
    rw [hend i hi']
    split <;> exact ⟨rfl, rfl⟩
  · have hk1 : k < st1.blocks.length := by simpa [MSt.endT] using hk
    have e : b ≠ k := by rintro rfl; rw [List.getElem?_set_self hDl] at hD; simp at hD
    rw [hend k hk1, if_neg e, hne k (by omega) (fun h => e h.symm)]
    rw [List.getElem?_set_ne e] at hD
    exact h.un k (by omega) hD
  · have hk1 : k < st1.blocks.length := by simpa [MSt.endT] using hk
    by_cases e : b = k
    · subst e
      simp only [hend b hk1, if_true]
      exact ⟨hok, fun v hv => (hl1.2 v (ha v hv)).endT hb1 hto1 (Int.le_refl _)⟩
    · simp only [hend k hk1, if_neg e, hne k (by omega) (fun h => e h.symm)]
      rw [List.getElem?_set_ne e] at hD
      obtain ⟨h1, h2⟩ := h.dn k (by omega) hD
      refine ⟨h1, fun v hv => ?_⟩
      have h3 := (h2 v hv).more (Int.le_refl _) b news
      rw [← hm1] at h3
      exact h3.endT hb1 hto1 (Int.le_refl _)
  · have hk1 : k < st1.blocks.length := by simpa [MSt.endT] using hk
    rw [hend k hk1]
    by_cases e : b = k
    · subst e
      simp only [if_true, hbb, more, List.length_append, h.un b hbl hb, List.length_nil]
      omega
    · simp only [if_neg e, hne k (by omega) (fun h => e h.symm)]
      exact h.il k (by omega)
  · have hk1 : k < st1.blocks.length := by simpa [MSt.endT] using hk
    rw [hend k hk1]
    by_cases e : b = k
    · subst e
      simp only [if_true, hbb, more]
      exact h.ph b hbl
    · simp only [if_neg e, hne k (by omega) (fun h => e h.symm)]
      exact h.ph k (by omega)
  · have h1 := h.nx
    simp only [MSt.endT] at hnx ⊢
    omega

/-! ### what the phis take -/
def MSt.fillPhi (st : MSt) (b i : Nat) (l : List JIn) : MSt := { st with blocks := st.blocks.modify b fun x => { x with phis := x.phis.modify i fun y => { y with ins := l } } }
/-- what a phi takes is there -/
def PhiOk (P : Int) (bs : List JBlock) (b : Nat) (l : List JIn) : Prop :=
  l.map (·.src) = (predsT bs (b : Int)).map Int.ofNat ∧ ∀ y ∈ l, ∀ a (ha : a < bs.length), y.src = (a : Int) → Stand P bs y.val a bs[a].ins.length
structure FSt (P n : Nat) (R : List (List Int)) (pr : List Nat) (b i c : Nat) (st : MSt) : Prop where
  par : st.params = (P : Int)
  len : st.blocks.length = n
  to : st.blocks.map (·.term.to) = R
  pv : PInv (P : Int) st.blocks st.next
  dn : ∀ b (hb : b < st.blocks.length), termOk st.blocks[b].term = true ∧ ∀ v ∈ st.blocks[b].term.args, Stand (P : Int) st.blocks v b st.blocks[b].ins.length
  il : ∀ b (hb : b < st.blocks.length), st.blocks[b].ins.length ≤ 57 + c
  ph : ∀ x (hx : x < st.blocks.length), st.blocks[x].phis.length = pr.getD x 0
  ok : ∀ x (hx : x < st.blocks.length) k (hk : k < st.blocks[x].phis.length), x < b ∨ x = b ∧ k < i → PhiOk (P : Int) st.blocks x st.blocks[x].phis[k].ins
  sm : ∀ x ∈ st.blocks, ∀ y ∈ x.phis, y.ins.length ≤ n
  ple : ∀ x, pr.getD x 0 ≤ 3
  zero : pr.getD 0 0 = 0
  nx : (P : Int) ≤ st.next ∧ st.next ≤ (P : Int) + 117 * n + c
theorem TSt.phis {P n : Nat} {R : List (List Int)} {pr : List Nat} {D : List Bool} {st : MSt} (h : TSt P n R pr D st) (hd : offN D = 0) : FSt P n R pr 1 0 0 st := by
  have hnx := h.nx
  refine ⟨h.par, h.len, h.to, h.pv, fun b hb => h.dn b hb (offN_all hd b (by rw [h.dl, ← h.len]; exact hb)), fun b hb => by have := h.il b hb; omega, fun x hx => (h.ph x hx).1, fun x hx k hk h1 => ?_, fun x hx y hy => ?_, h.ple, h.zero, by omega⟩
  · have := (h.ph x hx).1
    rcases h1 with h1 | ⟨_, h1⟩
    · obtain rfl : x = 0 := by omega
      have := h.zero; omega
    · omega
  · obtain ⟨k, hk, rfl⟩ := List.getElem_of_mem hx
    rw [(h.ph k hk).2 y hy]; simp
section
variable {P n : Nat} {R : List (List Int)} {pr : List Nat} {b i c : Nat} {st : MSt}
theorem PhiOk.same {P : Int} {bs cs : List JBlock} (hl : bs.length = cs.length) (hto : cs.map (·.term.to) = bs.map (·.term.to)) (hs : ∀ v a, (ha : a < bs.length) → Stand P bs v a bs[a].ins.length → Stand P cs v a (cs[a]'(by omega)).ins.length) {b : Nat} {l : List JIn} (h : PhiOk P bs b l) : PhiOk P cs b l := by
  refine ⟨?_, fun y hy a ha he => hs _ _ (by omega) (h.2 y hy a (by omega) he)⟩
  rw [h.1]
  congr 1
  have hg : ∀ p, p < bs.length → (cs.getD p default).term.to = (bs.getD p default).term.to := fun p hp => by
    have := congrArg (fun l : List (List Int) => l[p]?) hto
    simp only [List.getElem?_map] at this
    rw [List.getElem?_eq_getElem hp, List.getElem?_eq_getElem (by omega : p < cs.length)] at this
    rw [List.getD_eq_getElem?_getD, List.getD_eq_getElem?_getD, List.getElem?_eq_getElem hp, List.getElem?_eq_getElem (by omega : p < cs.length)]
    simpa using this
  simp only [predsT, ← hl]
  refine List.filter_congr fun p hp => ?_
  rw [hg p (List.mem_range.1 hp)]
/-- a constant more -/
theorem FSt.const (h : FSt P n R pr b i c st) (p : Nat) (hp : p < st.blocks.length) (imm : Int) : FSt P n R pr b i (c + 1) (st.fresh.addI p ⟨1, st.next, 0, [], imm⟩) ∧ Stand (P : Int) (st.fresh.addI p ⟨1, st.next, 0, [], imm⟩).blocks st.next p ((st.fresh.addI p ⟨1, st.next, 0, [], imm⟩).blocks[p]'(by simpa [MSt.addI, MSt.fresh] using hp)).ins.length := by
  have hg : Grow p 1 { st with live := [] } ({ st.fresh with live := [] }.addI p ⟨1, st.next, 0, [], imm⟩) := by
    refine Grow.fresh (c := 0) (k := 1) (x := ⟨1, st.next, 0, [], imm⟩) (by omega) (by omega) (by simp [insOk, opersF]) (by simp) ?_ (by simp [makesF]) ?_
    · intro v hv; simp [makesF] at hv; subst hv; simp only []; omega
    · simp [MSt.addI, MSt.grow, MSt.fresh]
  obtain ⟨hp1, hl1⟩ := PInv.grow (st := { st with live := [] }) h.pv ⟨hp, by simp⟩ hg h.nx.1
  have hbs : (st.fresh.addI p ⟨1, st.next, 0, [], imm⟩).blocks = st.blocks.modify p (more [⟨1, st.next, 0, [], imm⟩]) := rfl
  have hnx := h.nx
  have hget : ∀ k (hk : k < st.blocks.length), ((st.blocks.modify p (more [⟨1, st.next, 0, [], imm⟩]))[k]'(by simpa using hk)) = if p = k then more [⟨1, st.next, 0, [], imm⟩] st.blocks[k] else st.blocks[k] := fun k hk => by rw [List.getElem_modify]
  have hto : (st.blocks.modify p (more [⟨1, st.next, 0, [], imm⟩])).map (·.term.to) = st.blocks.map (·.term.to) := by
    refine List.ext_getElem (by simp) fun k h1 h2 => ?_
    simp only [List.getElem_map, List.getElem_modify]
    split <;> rfl
  have hst : ∀ v a, (ha : a < st.blocks.length) → Stand (P : Int) st.blocks v a st.blocks[a].ins.length → Stand (P : Int) (st.blocks.modify p (more [⟨1, st.next, 0, [], imm⟩])) v a ((st.blocks.modify p (more [⟨1, st.next, 0, [], imm⟩]))[a]'(by simpa using ha)).ins.length := fun v a ha hs => by
    refine hs.more ?_ p _
    rw [hget a ha]
    split
    · simp [more]; omega
    · exact Int.le_refl _
  refine ⟨⟨h.par, by simpa [hbs] using h.len, by rw [hbs, hto]; exact h.to, hp1, fun k hk => ?_, fun k hk => ?_, fun k hk => ?_, fun x hx k hk h1 => ?_, fun x hx y hy => ?_, h.ple, h.zero, by simp only [MSt.addI, MSt.fresh]; omega⟩, ?_⟩
  · have hk2 : k < st.blocks.length := by simpa [hbs] using hk
    obtain ⟨h1, h2⟩ := h.dn k hk2
    have e : ((st.fresh.addI p ⟨1, st.next, 0, [], imm⟩).blocks[k]).term = st.blocks[k].term := by
      simp only [hbs, hget k hk2]; split <;> rfl
    rw [e]
    exact ⟨h1, fun v hv => hst v k hk2 (h2 v hv)⟩
  · have hk2 : k < st.blocks.length := by simpa [hbs] using hk
    have := h.il k hk2
    simp only [hbs, hget k hk2]
    split
    · simp [more]; omega
    · omega
  · have hk2 : k < st.blocks.length := by simpa [hbs] using hk
    rw [← h.ph k hk2]
    simp only [hbs, hget k hk2]; split <;> rfl
  · have hx2 : x < st.blocks.length := by simpa [hbs] using hx
    have e : ((st.fresh.addI p ⟨1, st.next, 0, [], imm⟩).blocks[x]).phis = st.blocks[x].phis := by
      simp only [hbs, hget x hx2]; split <;> rfl
    simp only [e] at hk ⊢
    exact (h.ok x hx2 k hk h1).same (by simp [hbs]) hto hst
  · obtain ⟨k, hk, rfl⟩ := List.getElem_of_mem hx
    have hk2 : k < st.blocks.length := by simpa [hbs] using hk
    have e : ((st.fresh.addI p ⟨1, st.next, 0, [], imm⟩).blocks[k]).phis = st.blocks[k].phis := by
      simp only [hbs, hget k hk2]; split <;> rfl
    rw [e] at hy
    exact h.sm _ (List.getElem_mem hk2) y hy
  · exact hl1.2 st.next (by simp [MSt.addI, MSt.fresh, makesF])
/-- a phi's values put in -/
theorem FSt.fill (h : FSt P n R pr b i c st) (hb : b < st.blocks.length) (hi : i < pr.getD b 0) {l : List JIn} (hl : PhiOk (P : Int) st.blocks b l) : FSt P n R pr b (i + 1) c (st.fillPhi b i l) := by
  have hget : ∀ k (hk : k < st.blocks.length), ((st.fillPhi b i l).blocks[k]'(by simpa [MSt.fillPhi] using hk)) = if b = k then { st.blocks[k] with phis := st.blocks[k].phis.modify i fun y => { y with ins := l } } else st.blocks[k] := fun k hk => by simp only [MSt.fillPhi, List.getElem_modify]
  have hlen : st.blocks.length = (st.fillPhi b i l).blocks.length := by simp [MSt.fillPhi]
  have hto : (st.fillPhi b i l).blocks.map (·.term.to) = st.blocks.map (·.term.to) := by
    refine List.ext_getElem (by simp [MSt.fillPhi]) fun k h1 h2 => ?_
    have hk : k < st.blocks.length := by simpa using h2
    simp only [List.getElem_map, hget k hk]
    split <;> rfl
  have hsame : ∀ k (hk : k < st.blocks.length), ((st.fillPhi b i l).blocks[k]'(by omega)).phis.map (·.dst) = st.blocks[k].phis.map (·.dst) ∧ ((st.fillPhi b i l).blocks[k]'(by omega)).ins = st.blocks[k].ins := fun k hk => by
    rw [hget k hk]
    split
    · refine ⟨List.ext_getElem (by simp) fun j h1 h2 => ?_, rfl⟩
      simp only [List.getElem_map, List.getElem_modify]
      split <;> rfl
    · exact ⟨rfl, rfl⟩
  have hst : ∀ v a, (ha : a < st.blocks.length) → Stand (P : Int) st.blocks v a st.blocks[a].ins.length → Stand (P : Int) (st.fillPhi b i l).blocks v a ((st.fillPhi b i l).blocks[a]'(by omega)).ins.length := fun v a ha hs => by
    refine hs.same (ofF_to hto) hlen (fun v a p => made_map hlen hsame) ?_
    rw [(hsame a ha).2]; exact Int.le_refl _
  have hpn : (predsT st.blocks (b : Int)).length ≤ n := by
    have := List.length_filter_le (fun p => (st.blocks.getD p default).term.to.contains (b : Int)) (List.range st.blocks.length)
    rw [List.length_range, h.len] at this
    rw [predsT, h.len]; exact this
  have hll : l.length ≤ n := by have := congrArg List.length hl.1; simp only [List.length_map] at this; omega
  refine ⟨h.par, by rw [← hlen]; exact h.len, by rw [hto]; exact h.to, h.pv.same hlen hto hsame, fun k hk => ?_, fun k hk => ?_, fun k hk => ?_, fun x hx k hk h1 => ?_, fun x hx y hy => ?_, h.ple, h.zero, h.nx⟩
  · have hk2 : k < st.blocks.length := by omega
    obtain ⟨h1, h2⟩ := h.dn k hk2
    have e : ((st.fillPhi b i l).blocks[k]).term = st.blocks[k].term := by rw [hget k hk2]; split <;> rfl
    rw [e]
    exact ⟨h1, fun v hv => hst v k hk2 (h2 v hv)⟩
  · rw [(hsame k (by omega)).2]; exact h.il k (by omega)
  · rw [← h.ph k (by omega)]
    have := congrArg List.length (hsame k (by omega)).1
    simpa using this
  · have hx2 : x < st.blocks.length := by omega
    have hk2 : k < st.blocks[x].phis.length := by
      have := congrArg List.length (hsame x hx2).1
      simp only [List.length_map] at this; omega
    have e : ((st.fillPhi b i l).blocks[x]).phis[k].ins = if b = x ∧ i = k then l else st.blocks[x].phis[k].ins := by
      by_cases e1 : b = x
      · subst e1
        simp only [hget b hx2, if_true, List.getElem_modify, true_and]
        split <;> rfl
      · simp only [hget x hx2, if_neg e1, if_neg (fun h : b = x ∧ i = k => e1 h.1)]
    rw [e]
    split
    · rename_i e1
      obtain ⟨rfl, rfl⟩ := e1
      exact hl.same hlen hto hst
    · rename_i e1
      refine (h.ok x hx2 k hk2 ?_).same hlen hto hst
      rcases h1 with h1 | ⟨h1, h2⟩
      · exact .inl h1
      · refine .inr ⟨h1, ?_⟩
        have : ¬ i = k := fun e => e1 ⟨h1.symm, e⟩
        omega
  · obtain ⟨k, hk, rfl⟩ := List.getElem_of_mem hx
    have hk2 : k < st.blocks.length := by omega
    rw [hget k hk2] at hy
    split at hy
    · obtain ⟨j, hj, rfl⟩ := List.getElem_of_mem hy
      have hj2 : j < st.blocks[k].phis.length := by simpa using hj
      rw [List.getElem_modify]
      split
      · exact hll
      · exact h.sm _ (List.getElem_mem hk2) _ (List.getElem_mem hj2)
    · exact h.sm _ (List.getElem_mem hk2) y hy
theorem FSt.next (h : FSt P n R pr b i c st) (hi : pr.getD b 0 = i) : FSt P n R pr (b + 1) 0 c st := by
  refine ⟨h.par, h.len, h.to, h.pv, h.dn, h.il, h.ph, fun x hx k hk h1 => ?_, h.sm, h.ple, h.zero, h.nx⟩
  refine h.ok x hx k hk ?_
  rcases h1 with h1 | ⟨h1, h2⟩
  · by_cases e : x = b
    · subst e
      refine .inr ⟨rfl, ?_⟩
      have := h.ph x hx; omega
    · exact .inl (by omega)
  · omega
theorem FSt.right {m : Nat} (h : FSt P n R pr n 0 c st) (hR : TR n m n R) (hn : 0 < n) (h9 : n ≤ 9) (hP : P ≤ 4) (hc : c ≤ 300) : RightF ⟨P, st.blocks⟩ := by
  have hreach := reach_of hR hn h.to
  have hnx := h.nx
  have hlen := h.len
  have hth : thingsN st.blocks ≤ st.blocks.length * 360 := sum_le st.blocks _ 360 fun x hx => by
    obtain ⟨k, hk, rfl⟩ := List.getElem_of_mem hx
    have h1 := h.ph k hk
    have h2 := h.ple k
    have h3 := h.il k hk
    omega
  refine ⟨by simp only []; omega, by simp only []; omega, by simp only []; omega, by simp only []; omega, fun x hx s hs => h.pv.ins x hx s hs, fun x hx => ?_, fun x hx t ht => ?_, fun v hv => ?_, h.pv.once, hreach, fun b hb p hp => ?_, fun b hb p hp y hy a ha he => ?_, h.pv.useI, fun b hb => (h.dn b hb).2⟩
  · obtain ⟨k, hk, rfl⟩ := List.getElem_of_mem hx
    exact (h.dn k hk).1
  · have hm : x.term.to ∈ R := by rw [← h.to]; exact List.mem_map.2 ⟨x, hx, rfl⟩
    have := hR.2.2.1 _ hm t ht
    simp only [] at *; omega
  · have := h.pv.vals v hv
    simp only []; omega
  · simp only [] at hb hp ⊢
    obtain ⟨j, hj, rfl⟩ := List.getElem_of_mem hp
    refine ⟨?_, ?_⟩
    · rcases Nat.eq_zero_or_pos b with rfl | h1
      · have h1 := h.ph 0 hb
        have h2 := h.zero
        omega
      · exact h1
    · rw [(h.ok b hb j hj (.inl (by omega))).1, prd_preds st.blocks b hb]
  · simp only [] at hb hp ha ⊢
    obtain ⟨j, hj, rfl⟩ := List.getElem_of_mem hp
    exact (h.ok b hb j hj (.inl (by omega))).2 y hy a ha he
end
/-- the predecessors, by the blocks' ways alone -/
def predsR (R : List (List Int)) (b : Int) : List Nat := (List.range R.length).filter fun p => (R.getD p []).contains b
theorem preds_R {bs : List JBlock} {R : List (List Int)} (h : bs.map (·.term.to) = R) (b : Int) : predsT bs b = predsR R b := by
  subst h
  simp only [predsT, predsR, List.length_map]
  refine List.filter_congr fun p hp => ?_
  have hp := List.mem_range.1 hp
  simp [List.getD_eq_getElem?_getD, hp]
/-- what a phi takes, as far as it is told -/
def PartOk (P : Int) (bs : List JBlock) (L : List Nat) (k : Nat) (l : List JIn) : Prop :=
  l.map (·.src) = (L.take k).map Int.ofNat ∧ ∀ y ∈ l, ∀ a (ha : a < bs.length), y.src = (a : Int) → Stand P bs y.val a bs[a].ins.length
theorem PartOk.nil (P : Int) (bs : List JBlock) (L : List Nat) : PartOk P bs L 0 [] := ⟨by simp, by intro y hy; cases hy⟩
theorem const_stand {P : Int} {st : MSt} {p : Nat} (imm : Int) {v : Int} {a : Nat} (ha : a < st.blocks.length) (h : Stand P st.blocks v a st.blocks[a].ins.length) :
    Stand P (st.fresh.addI p ⟨1, st.next, 0, [], imm⟩).blocks v a ((st.fresh.addI p ⟨1, st.next, 0, [], imm⟩).blocks[a]'(by simpa [MSt.addI, MSt.fresh] using ha)).ins.length := by
  refine h.more ?_ p _
  simp only [MSt.addI, MSt.fresh, List.getElem_modify]
  split
  · simp [more]; omega
  · exact Int.le_refl _
theorem PartOk.const {P : Int} {st : MSt} {L : List Nat} {k : Nat} {l : List JIn} (h : PartOk P st.blocks L k l) (p : Nat) (imm : Int) : PartOk P (st.fresh.addI p ⟨1, st.next, 0, [], imm⟩).blocks L k l :=
  ⟨h.1, fun y hy a ha he => const_stand imm (by simpa [MSt.addI, MSt.fresh] using ha) (h.2 y hy a (by simpa [MSt.addI, MSt.fresh] using ha) he)⟩
theorem PartOk.app {P : Int} {bs : List JBlock} {L : List Nat} {k : Nat} {l : List JIn} (h : PartOk P bs L k l) (hk : k < L.length) {v : Int} (hb : L[k] < bs.length) (hv : Stand P bs v L[k] bs[L[k]].ins.length) : PartOk P bs L (k + 1) (l ++ [⟨(L[k] : Nat), v⟩]) := by
  refine ⟨?_, fun y hy a ha he => ?_⟩
  · rw [List.map_append, h.1, List.take_succ_eq_append_getElem hk, List.map_append]
    rfl
  · rcases List.mem_append.1 hy with hy | hy
    · exact h.2 y hy a ha he
    · simp only [List.mem_singleton] at hy
      subst hy
      obtain rfl : L[k] = a := by simp at he; omega
      exact hv
theorem predsT_lt {bs : List JBlock} {b : Int} {x : Nat} (h : x ∈ predsT bs b) : x < bs.length := by
  simp only [predsT, List.mem_filter, List.mem_range] at h; exact h.1
theorem thT_len2 {bs : List JBlock} {B : Nat} (h : ∀ x ∈ bs, x.phis.length + x.ins.length ≤ B) : ∀ i, i ≤ bs.length → (thT bs i).length ≤ i * (B + 1)
  | 0, _ => by simp [thT]
  | i + 1, hi => by
    have h1 := thT_len2 h i (by omega)
    have h2 := h _ (List.getElem_mem (show i < bs.length by omega))
    rw [thT_succ, List.length_append, List.getD_eq_getElem?_getD, List.getElem?_eq_getElem (show i < bs.length by omega), Nat.add_mul]
    simp [blT, phT, inT]
    omega
theorem standV_stand {P : Int} {bs : List JBlock} {b : Nat} {v : Int} (hb : b < bs.length) (h : StandV P bs b v) : Stand P bs v b bs[b].ins.length := by
  rcases h with h | ⟨t, ht, hv, a, hta, ha, h⟩
  · exact .inl h
  · refine stand_of_vals ha hb ?_ h
    simp only [thT, List.mem_flatMap, List.mem_range] at ht
    obtain ⟨i, hi, ht⟩ := ht
    have e : bs.getD i default = bs[i] := by simp [List.getD_eq_getElem?_getD, hi]
    rw [e] at ht
    simp only [blT, phT, inT, List.mem_append, List.mem_map, List.mem_range, List.mem_singleton] at ht
    rcases ht with ⟨j, hj, rfl⟩ | ⟨j, hj, rfl⟩ | rfl
    · obtain rfl : i = a := by simp at hta; omega
      simp only [List.mem_singleton] at hv
      subst hv
      have e2 : bs[i].phis.getD j default = bs[i].phis[j] := by simp [List.getD_eq_getElem?_getD, hj]
      rw [e2]
      exact List.mem_append_left _ (List.mem_map.2 ⟨_, List.getElem_mem hj, rfl⟩)
    · obtain rfl : i = a := by simp at hta; omega
      have e2 : bs[i].ins.getD j default = bs[i].ins[j] := by simp [List.getD_eq_getElem?_getD, hj]
      simp only [e2] at hv
      exact List.mem_append_right _ (List.mem_flatMap.2 ⟨_, List.getElem_mem hj, hv⟩)
    · simp at hv
end Go.Proofs.Ytkmgbejhbkbaoaa

/- The maker of functions: a block of it opened; what stands beside it. -/
namespace Go.Proofs.Ytkmgbejhbkbaoaa
set_option linter.unusedSimpArgs false
set_option linter.unusedVariables false
open Go.RowKit

section
variable {α : Type} {d : Kd α} {e : TypeId} {w w1 : World} {S Si : List Nat} {xs : List α} {g cap i : Nat} {cs : List Value}
theorem SlAt.innerG (h : SlAt d e w S g cap xs i Si cs) (hn : S.Nodup) {x' : α} {Sx : List Nat} (hx : ∀ k, k ∈ S → k ∉ Si → w1.heap[k]? = w.heap[k]?) (hr : d.rep w1 Sx x' cs) (hS : ∀ k ∈ Sx, k ∈ Si ∨ k ∉ S) :
    ∃ S', SlR d e w1 S' (.slice (some ⟨g, 0, none⟩) xs.length cap) (xs.set i x') ∧ (∀ k ∈ S', k ∈ S ∨ k ∈ Sx) ∧ (Sx.Nodup → S'.Nodup) := by
  have hni := h.notin
  obtain ⟨⟨C, Ss, h0, h1, h2, hb0, hC, hgn, rfl, hE, hSi, rfl⟩, hi, hrep⟩ := h
  have hnf : Ss.flatten.Nodup := (List.nodup_cons.1 hn).2
  have hgSx : g ∉ Sx := fun hk => by
    rcases hS g hk with h5 | h5
    · exact hni h5
    · exact h5 (by simp)
  have hgS : g ∉ (Ss.set i Sx).flatten := fun hk => by
    rcases mem_flatten_set hk with h5 | ⟨j', B, _, hB, h5⟩
    · exact hgSx h5
    · exact hgn (List.mem_flatten.2 ⟨B, List.mem_of_getElem? hB, h5⟩)
  have hb1 : Blk w1 g e C := hb0.move (hx g (by simp) hni)
  refine ⟨g :: (Ss.set i Sx).flatten, .inr ⟨g, cap, C, Ss.set i Sx, by rw [List.length_set], h0, by rw [List.length_set]; exact h1, h2, hb1, hC, hgS, rfl, ?_⟩, ?_, ?_⟩
  · refine ⟨by rw [List.length_set, List.length_set, hE.1], fun k x hk => ?_⟩
    by_cases hij : i = k
    · subst hij
      rw [List.getElem?_set_self hi] at hk
      injection hk with hk
      subst hk
      exact ⟨Sx, List.getElem?_set_self (by rw [hE.1]; exact hi), hr⟩
    · rw [List.getElem?_set_ne hij] at hk
      obtain ⟨Sj, hSj, hrj⟩ := hE.2 k x hk
      refine ⟨Sj, by rw [List.getElem?_set_ne hij]; exact hSj, ?_⟩
      have hin : ∀ q ∈ Sj, q ∈ Ss.flatten := fun q hq => List.mem_flatten.2 ⟨Sj, List.mem_of_getElem? hSj, hq⟩
      exact d.move hrj fun q hq => hx q (List.mem_cons_of_mem _ (hin q hq)) (flatten_disj hnf hSj hSi (fun e => hij e.symm) q hq)
  · intro k hk
    rcases List.mem_cons.1 hk with rfl | hk
    · exact .inl (by simp)
    · rcases mem_flatten_set hk with h5 | ⟨j', B, _, hB, h5⟩
      · exact .inr h5
      · exact .inl (List.mem_cons_of_mem _ (List.mem_flatten.2 ⟨B, List.mem_of_getElem? hB, h5⟩))
  · intro hSx
    refine List.nodup_cons.2 ⟨hgS, nodup_flatten_set hnf hSi hSx fun k hk => ?_⟩
    rcases hS k hk with h5 | h5
    · exact .inl h5
    · exact .inr fun h6 => h5 (List.mem_cons_of_mem _ h6)
end

/-- a maker, all of whose memory is new since w0 -/
structure MI (w0 w : World) (q : Nat) (vs : Value) (F : List Nat) (a : Nat) (st : MSt) (vts : List Value) : Prop where
  m : MkE w q vs F a st vts
  x : Ext [] w0 w
  n : ∀ k ∈ F, w0.heap.size ≤ k
section
variable {w0 w w' : World} {q : Nat} {vs : Value} {F F' M : List Nat} {a a' : Nat} {st st' : MSt} {vts vts' : List Value}
theorem MI.step (h : MI w0 w q vs F a st vts) (hm : MkE w' q vs F' a' st' vts') (hx : FpStep F w w' F') : MI w0 w' q vs F' a' st' vts' :=
  ⟨hm, h.x.trans hx.1 fun k hk => .inr (h.n k hk), fun k hk => (hx.2 k hk).elim (h.n k) fun h2 => Nat.le_trans h.x.size h2⟩
theorem MI.ext0 (h : MI w0 w q vs F a st vts) (hx : Ext [] w w') : MI w0 w' q vs F a st vts := ⟨h.m.ext0 hx, h.x.nil hx, h.n⟩
theorem MI.own (h : MI w0 w q vs F a st vts) (h0 : RdS w0 [] vs) (hx : Ext M w w') (hM : ∀ k ∈ M, k ∉ F ∧ w0.heap.size ≤ k) : MI w0 w' q vs F a st vts := by
  have x' : Ext [] w0 w' := h.x.trans hx fun k hk => .inr (hM k hk).2
  exact ⟨h.m.extM hx (fun k hk => (hM k hk).1) (h0.step ⟨x', fun k hk => .inr (h.n k hk)⟩), x', h.n⟩
/-- the function as it is -/
theorem MkE.fn (h : MkE w q vs F a st vts) : ∃ A cap S, w.cell? ⟨q, 2, none⟩ = some (.int .i64 st.params) ∧ w.cell? ⟨q, 3, none⟩ = some (.slice A st.blocks.length cap) ∧ FnR w S (.agg #[.int .i64 st.params, .slice A st.blocks.length cap]) ⟨st.params, st.blocks⟩ ∧ (∀ k ∈ S, k ∈ F) ∧ S.Nodup ∧ (∀ i, w.frozen? ⟨q, i, none⟩ = false) := by
  obtain ⟨vb, vl, Sb, Sl, H⟩ := h
  have hf := slr_forget H.bs
  rw [List.map_fst_zip (by rw [H.vlen]; exact Nat.le_refl _)] at hf
  obtain ⟨A, cap, rfl, _⟩ := hf.shape
  have hnd := H.nd
  rw [H.fp] at hnd
  exact ⟨A, cap, Sb, H.blk.cell (i := 2) rfl, H.blk.cell (i := 3) rfl, ⟨_, rfl, hf⟩, fun k hk => by rw [H.fp]; simp [hk], (List.nodup_append.1 (List.nodup_cons.1 hnd).2).1, H.blk.frozen⟩

/-- a block of it, opened -/
structure OpB (w : World) (q : Nat) (F : List Nat) (x : JBlock) (b g : Nat) (vp vi va vt : Value) (Sp Si Sa St : List Nat) : Prop where
  cells : BlkCells w (Sp ++ (Si ++ (Sa ++ St))) x vp vi va vt Sp Si Sa St
  c0 : w.cell? ⟨g, b * 6, none⟩ = some vp
  c1 : w.cell? ⟨g, b * 6 + 1, none⟩ = some vi
  c2 : w.cell? ⟨g, b * 6 + 2, none⟩ = some (.int .i64 x.term.kind)
  c3 : w.cell? ⟨g, b * 6 + 3, none⟩ = some va
  c4 : w.cell? ⟨g, b * 6 + 4, none⟩ = some vt
  c5 : w.cell? ⟨g, b * 6 + 5, none⟩ = some (.int .i32 x.term.imm)
  fz : ∀ i, w.frozen? ⟨g, i, none⟩ = false
  gF : g ∈ F
  gq : g ≠ q
  sub : ∀ k ∈ Sp ++ (Si ++ (Sa ++ St)), k ∈ F ∧ k ≠ g ∧ k ≠ q
  nd : (Sp ++ (Si ++ (Sa ++ St))).Nodup
theorem MI.opens (h : MI w0 w q vs F a st vts) (h0 : RdS w0 [] vs) (b : Nat) (hb : b < st.blocks.length) :
    ∃ g cap vp vi va vt Sp Si Sa St, w.cell? ⟨q, 3, none⟩ = some (.slice (some ⟨g, 0, none⟩) st.blocks.length cap) ∧ vts[b]? = some vt ∧ OpB w q F st.blocks[b] b g vp vi va vt Sp Si Sa St ∧
      (∀ (w1 : World) (j : Nat) (u : Value) (x' : JBlock) (Sx : List Nat), Ext (Sp ++ (Si ++ (Sa ++ St))) w w1 → j < 6 → kBV.rep (w1.setCell ⟨g, b * 6 + j, none⟩ u) Sx (x', vt) ([vp, vi, .int .i64 st.blocks[b].term.kind, va, vt, .int .i32 st.blocks[b].term.imm].set j u) →
        (∀ k ∈ Sx, k ∈ Sp ++ (Si ++ (Sa ++ St)) ∨ (k ∉ F ∧ w0.heap.size ≤ k)) → Sx.Nodup → ∃ F', MI w0 (w1.setCell ⟨g, b * 6 + j, none⟩ u) q vs F' a { st with blocks := st.blocks.set b x' } vts ∧ (∀ k ∈ F', k ∈ F ∨ k ∈ Sx) ∧ Ext F w (w1.setCell ⟨g, b * 6 + j, none⟩ u)) ∧
      (∀ (w1 : World) (x' : JBlock) (Sx : List Nat), Ext (Sp ++ (Si ++ (Sa ++ St))) w w1 → kBV.rep w1 Sx (x', vt) [vp, vi, .int .i64 st.blocks[b].term.kind, va, vt, .int .i32 st.blocks[b].term.imm] →
        (∀ k ∈ Sx, k ∈ Sp ++ (Si ++ (Sa ++ St)) ∨ (k ∉ F ∧ w0.heap.size ≤ k)) → Sx.Nodup → ∃ F', MI w0 w1 q vs F' a { st with blocks := st.blocks.set b x' } vts ∧ (∀ k ∈ F', k ∈ F ∨ k ∈ Sx) ∧ Ext F w w1) ∧
      ∃ vl Sl, w.cell? ⟨q, 5, none⟩ = some vl ∧ SlR kInt 3 w Sl vl st.live ∧ q ∉ Sl ∧ g ∉ Sl ∧ ∀ k ∈ Sp ++ (Si ++ (Sa ++ St)), k ∉ Sl := by
  have hm := h.m
  obtain ⟨vb, vl, Sb, Sl, H⟩ := hm
  have hvl := H.vlen
  have hzl : (st.blocks.zip vts).length = st.blocks.length := by rw [List.length_zip, hvl]; omega
  have hbz : b < (st.blocks.zip vts).length := by rw [hzl]; exact hb
  have hnd := H.nd
  have hfp := H.fp
  rw [hfp] at hnd
  obtain ⟨hq, hnd2⟩ := List.nodup_cons.1 hnd
  obtain ⟨n1, n2, n3⟩ := List.nodup_append.1 hnd2
  obtain ⟨g, cap, Sbb, cs0, hv, hat⟩ := H.bs.at b hbz
  have hgz : (st.blocks.zip vts)[b]'hbz = (st.blocks[b]'hb, vts[b]'(by rw [hvl]; exact hb)) := by simp
  have hrep := hat.rep
  rw [hgz] at hrep
  obtain ⟨vp, vi, va, Sp, Si, Sa, St, rfl, hr⟩ := hrep
  have hsS := hr.s
  subst hsS
  simp only at hr
  subst hv
  have hmS := hat.mem
  have hgn := hat.notin
  have hnbb := hat.nodup n1
  have c3 := H.blk.cell (i := 3) rfl
  rw [hzl] at c3
  have hgF : g ∈ F := by rw [hfp]; simp [hmS.1]
  have hgq : g ≠ q := by rintro rfl; exact hq (by simp [hmS.1])
  have hgl : g ∉ Sl := fun h2 => n3 g hmS.1 g h2 rfl
  have hsub : ∀ k ∈ Sp ++ (Si ++ (Sa ++ St)), k ∈ F ∧ k ≠ g ∧ k ≠ q := fun k hk => ⟨by rw [hfp]; simp [hmS.2 k hk], by rintro rfl; exact hgn hk, by rintro rfl; exact hq (by simp [hmS.2 _ hk])⟩
  have hvt : vts[b]? = some (vts[b]'(by rw [hvl]; exact hb)) := List.getElem?_eq_getElem _
  have z0 := hat.cell 0 rfl
  have z1 := hat.cell 1 rfl
  have z2 := hat.cell 2 rfl
  have z3 := hat.cell 3 rfl
  have z4 := hat.cell 4 rfl
  have z5 := hat.cell 5 rfl
  simp only [kBV, Nat.add_zero] at z0 z1 z2 z3 z4 z5
  have hset : ∀ x' : JBlock, (st.blocks.zip vts).set b (x', vts[b]'(by rw [hvl]; exact hb)) = (st.blocks.set b x').zip vts := fun x' => by
    refine List.ext_getElem (by simp) fun i h1 h2 => ?_
    simp only [List.getElem_zip, List.getElem_set]
    split
    · rename_i e; subst e; rfl
    · rfl
  have fin : ∀ (w2 : World) (S' Sx : List Nat) (x' : JBlock), (∀ k, k ∈ F → k ≠ g → k ∉ Sp ++ (Si ++ (Sa ++ St)) → w2.heap[k]? = w.heap[k]?) → Ext F w w2 → SlR kBV 43 w2 S' (.slice (some ⟨g, 0, none⟩) (st.blocks.zip vts).length cap) ((st.blocks.zip vts).set b (x', vts[b]'(by rw [hvl]; exact hb))) →
      (∀ k ∈ S', k ∈ Sb ∨ k ∈ Sx) → S'.Nodup → (∀ k ∈ Sx, k ∈ Sp ++ (Si ++ (Sa ++ St)) ∨ (k ∉ F ∧ w0.heap.size ≤ k)) → ∃ F', MI w0 w2 q vs F' a { st with blocks := st.blocks.set b x' } vts ∧ (∀ k ∈ F', k ∈ F ∨ k ∈ Sx) := by
    intro w2 S' Sx x' hk hX hs hS hn hSx
    have hF' : ∀ k ∈ q :: (S' ++ Sl), k ∈ F ∨ k ∈ Sx := fun k hk => by
      rw [hfp]
      simp only [List.mem_cons, List.mem_append] at hk ⊢
      rcases hk with hk | hk | hk
      · exact .inl (.inl hk)
      · exact (hS k hk).imp (fun h2 => .inr (.inl h2)) id
      · exact .inl (.inr (.inr hk))
    have hnew : ∀ k ∈ q :: (S' ++ Sl), w0.heap.size ≤ k := fun k hk => by
      rcases hF' k hk with h2 | h2
      · exact h.n k h2
      · rcases hSx k h2 with h3 | h3
        · exact h.n k (hsub k h3).1
        · exact h3.2
    have hqS : q ∉ S' := fun hk => by
      rcases hS q hk with h2 | h2
      · exact hq (by simp [h2])
      · rcases hSx q h2 with h3 | h3
        · exact (hsub q h3).2.2 rfl
        · exact h3.1 (by rw [hfp]; simp)
    have hX0 : Ext [] w0 w2 := h.x.trans hX fun k hk => .inr (h.n k hk)
    have hb2 : Blk w2 q 58 #[vs, .int .i64 (a : Int), .int .i64 st.params, .slice (some ⟨g, 0, none⟩) (st.blocks.zip vts).length cap, .int .i64 st.next, vl] := H.blk.move (hk q (by rw [hfp]; simp) (fun e => hgq e.symm) (fun h2 => (hsub q h2).2.2 rfl))
    refine ⟨q :: (S' ++ Sl), ⟨⟨_, vl, S', Sl, ⟨hb2, ?_, ?_, ?_, rfl, ?_, h0.step ⟨hX0, fun k hk => .inr (hnew k hk)⟩⟩⟩, hX0, hnew⟩, hF'⟩
    · rw [← hset]; exact hs
    · simpa using hvl
    · exact H.lv.move fun k hk2 => hk k (by rw [hfp]; simp [hk2]) (by rintro rfl; exact hgl hk2) (fun h2 => n3 k (hmS.2 k h2) k hk2 rfl)
    · refine List.nodup_cons.2 ⟨fun hk => ?_, List.nodup_append.2 ⟨hn, n2, ?_⟩⟩
      · rcases List.mem_append.1 hk with hk | hk
        · exact hqS hk
        · exact hq (by simp [hk])
      · rintro k hk k' hk' rfl
        rcases hS k hk with h1 | h1
        · exact n3 k h1 k hk' rfl
        · rcases hSx k h1 with h3 | h3
          · exact n3 k (hmS.2 k h3) k hk' rfl
          · exact h3.1 (by rw [hfp]; simp [hk'])
  have hltF := MkE.lt ⟨_, _, _, _, H⟩
  refine ⟨g, cap, vp, vi, va, vts[b]'(by rw [hvl]; exact hb), Sp, Si, Sa, St, c3, hvt, ⟨hr, z0, z1, z2, z3, z4, z5, hat.frozen, hgF, hgq, hsub, hnbb⟩, fun w1 j u x' Sx hx hj hrx hSx hnx => ?_, fun w1 x' Sx hx hrx hSx hnx => ?_, vl, Sl, H.blk.cell (i := 5) rfl, H.lv, fun hk => hq (by simp [hk]), hgl, fun k hk hk2 => n3 k (hmS.2 k hk) k hk2 rfl⟩
  · have hX : Ext F w (w1.setCell ⟨g, b * 6 + j, none⟩ u) := (hx.mono fun k hk => .inl (hsub k hk).1).setCell (.inl hgF) u
    obtain ⟨S', p1, p2, p3⟩ := hat.putG n1 (w1 := w1) (x' := (x', vts[b]'(by rw [hvl]; exact hb))) (Sx := Sx) (fun k hk h2 => hx.block k (hltF k (by rw [hfp]; simp [hk])) h2) j hj u hrx (fun k hk => (hSx k hk).imp id fun h2 h3 => h2.1 (by rw [hfp]; simp [h3]))
    obtain ⟨F', f1, f2⟩ := fin _ S' Sx x' (fun k hk h1 h2 => (Below.heap_setCell w1 _ u k h1).trans (hx.block k (hltF k hk) h2)) hX p1 p2 (p3 hnx) hSx
    exact ⟨F', f1, f2, hX⟩
  · have hX : Ext F w w1 := hx.mono fun k hk => .inl (hsub k hk).1
    obtain ⟨S', p1, p2, p3⟩ := hat.innerG n1 (w1 := w1) (x' := (x', vts[b]'(by rw [hvl]; exact hb))) (Sx := Sx) (fun k hk h2 => hx.block k (hltF k (by rw [hfp]; simp [hk])) h2) hrx (fun k hk => (hSx k hk).imp id fun h2 h3 => h2.1 (by rw [hfp]; simp [h3]))
    obtain ⟨F', f1, f2⟩ := fin _ S' Sx x' (fun k hk h1 h2 => hx.block k (hltF k hk) h2) hX p1 p2 (p3 hnx) hSx
    exact ⟨F', f1, f2, hX⟩
end
end Go.Proofs.Ytkmgbejhbkbaoaa

/- The maker of functions: rows of it made longer, a phi's values put in. -/
namespace Go.Proofs.Ytkmgbejhbkbaoaa
set_option linter.unusedSimpArgs false
set_option linter.unusedVariables false
open Go.RowKit

theorem wpList_append_eq {P : Program} {ops : Array Oper} {rest : List Oper} {o : Oper} {a : Act} {w w' : World} {v xv v' : Value} {Q : Exit → Act → World → Prop} (hgd : o.guard = none) (s x : Operand) (t : TypeId)
    (ho : o.op = .call { callee := .builtin .append, args := #[s, x], argTypes := #[t, t] }) (hs : a.eval s = v) (hxv : a.eval x = xv) (hr : (Builtin.append_ #[t, t] o.type #[v, xv]).run P w = .ok v' w')
    (hk : wpList P ops Q rest (a.put o.dst v') w') : wpList P ops Q (o :: rest) a w := by
  refine wpList_plain hgd fun _ hK => ?_
  unfold Oper.wp execOp
  simp only [ho, resolve, invoke, builtin, Sem.run_bind, Sem.run_pure, Result.andThen_ok, List.map_toArray, List.map_cons, List.map_nil, hs, hxv, hr]
  exact hK _ _ hk
theorem elems_ints {w : World} (l : List Int) : Elems kInt w (List.replicate l.length []) (l.map (Value.int .i64)) l := elems_sc.2 ⟨rfl, by rw [List.take_of_length_le (by simp)]⟩
set_option maxRecDepth 20000 in
theorem fresh2_calls {w : World} {q : Nat} {vs : Value} {F : List Nat} {a : Nat} {st : MSt} {vts : List Value} (h : MkE w q vs F a st vts) (h0 : 0 ≤ st.next) (h1 : st.next ≤ 1000000) :
    Calls Try.prog 22 #[.pointer (some ⟨q, 0, none⟩)] w fun e w' => e = .returned (.int .i64 st.next) ∧ MkE w' q vs F a st.fresh vts ∧ Ext [q] w w' ∧ q ∈ F ∧ w'.cell? ⟨q, 3, none⟩ = w.cell? ⟨q, 3, none⟩ := by
  obtain ⟨vb, vl, Sb, Sl, H⟩ := h
  have c4 := H.blk.cell (i := 4) rfl
  have c3 := Lib.hid (H.blk.cell (i := 3) rfl)
  have hfz := H.blk.frozen 4
  have HR := Lib.hid H
  have hqF := Lib.hid H.fp
  clear H
  go_enter Try.func22, Try.ntmps22
  go_wp2
  go_ret
  obtain ⟨hM, hx⟩ := HR.out.num 4 (.int .i64 (st.next + 1)) (a' := a) (st' := st.fresh) rfl rfl (by simp [MSt.fresh])
  refine ⟨rfl, ⟨_, _, _, _, hM⟩, (Ext.refl _ _).setCell (.inl (by simp)) _, by rw [hqF.out]; simp, ?_⟩
  have c3' := hM.blk.cell (i := 3) rfl
  exact c3'.trans c3.out.symm

section
variable {w0 w w1 w2 : World} {q : Nat} {vs : Value} {F : List Nat} {a : Nat} {st : MSt} {vts : List Value}
theorem set_modify {α : Type} {l : List α} {b : Nat} (hb : b < l.length) (f : α → α) : l.set b (f l[b]) = l.modify b f := by
  refine List.ext_getElem (by simp) fun i h1 h2 => ?_
  simp only [List.getElem_set, List.getElem_modify]
  split
  · rename_i e; subst e; rfl
  · rfl
set_option maxHeartbeats 1600000 in
/-- a phi more -/
theorem phi_app (h0 : RdS w0 [] vs) (h : MI w0 w1 q vs F a st vts) (b : Nat) (hb : b < st.blocks.length) (hx : Ext [] w1 w2) {x : Value} (d : Int) (hsrc : Src w2 x 1 [.int .i64 d, .slice none 0 0]) (hl : st.blocks[b].phis.length ≤ 1000)
    {g n cap : Nat} {vp : Value} (hq3 : w1.cell? ⟨q, 3, none⟩ = some (.slice (some ⟨g, 0, none⟩) n cap)) (hc : w1.cell? ⟨g, b * 6, none⟩ = some vp) :
    ∃ A' n' c' w3, (Builtin.append_ #[38, 38] 38 #[vp, x]).run Try.prog w2 = .ok (.slice A' n' c') w3 ∧ w3.cell? ⟨q, 3, none⟩ = some (.slice (some ⟨g, 0, none⟩) n cap) ∧ w3.cell? ⟨g, b * 6, none⟩ = some vp ∧ w3.frozen? ⟨g, b * 6, none⟩ = false ∧
      ∃ F', MI w0 (w3.setCell ⟨g, b * 6, none⟩ (.slice A' n' c')) q vs F' a { st with blocks := st.blocks.modify b fun x => { x with phis := x.phis ++ [⟨d, []⟩] } } vts ∧ FpStep F w1 (w3.setCell ⟨g, b * 6, none⟩ (.slice A' n' c')) F' := by
  obtain ⟨g', cap', vp', vi, va, vt, Sp, Si, Sa, St, k3, hvt, O, cl, _⟩ := h.opens h0 b hb
  rw [hq3] at k3
  injection k3 with k3
  injection k3 with e1 e2 e3
  injection e1 with e1
  injection e1 with e1
  subst e1
  have hc0 := O.c0
  rw [hc] at hc0
  injection hc0 with hc0
  subst hc0
  have hrep : kPhi.rep w2 [] ⟨d, []⟩ [.int .i64 d, .slice none 0 0] := ⟨_, rfl, SlR.nil _ _ _⟩
  obtain ⟨v', w3, S', hrun, hs', hxx, hf', hn'⟩ := run_append_sl (ty := 38) (d := kPhi) (ys := [⟨d, []⟩]) ei_phi (O.cells.p.ext0 hx) x [.int .i64 d, .slice none 0 0] [[]] (elems_single hrep) rfl (Kd.one kPhi hrep) hsrc (by simp) (le_maxLen (by omega)) (le_bytesB (n := st.blocks[b].phis.length) (by omega) (by decide))
  obtain ⟨A', c', rfl, _⟩ := hs'.shape
  have hsz := hx.size
  have hin : ∀ k ∈ Sp, k ∈ Sp ++ (Si ++ (Sa ++ St)) := fun k hk => by simp [hk]
  have hxw : Ext (Sp ++ (Si ++ (Sa ++ St))) w1 w3 := (hx.mono (by simp)).trans hxx fun k hk => .inl (hin k hk)
  have hnd := O.nd
  obtain ⟨n1, n2, n3⟩ := List.nodup_append.1 hnd
  have hltF := h.m.lt
  have hS'2 : ∀ k ∈ S', k ∈ Sp ∨ w1.heap.size ≤ k := fun k hk => by
    rcases hf' k hk with h2 | h2 | h2
    · exact .inl h2
    · exact .inr (by omega)
    · simp at h2
  have hoff : ∀ k ∈ S', k ∉ Si ++ (Sa ++ St) := fun k hk h2 => by
    rcases hS'2 k hk with h3 | h3
    · exact n3 k h3 k h2 rfl
    · have := hltF k (O.sub k (by simp only [List.mem_append] at h2 ⊢; exact .inr h2)).1; omega
  have hgS : g ∉ S' := fun hk => by
    rcases hS'2 g hk with h3 | h3
    · exact (O.sub g (hin g h3)).2.1 rfl
    · have := hltF g O.gF; omega
  have hgI : ∀ k ∈ Si ++ (Sa ++ St), k ≠ g := fun k hk => (O.sub k (by simp only [List.mem_append] at hk ⊢; exact .inr hk)).2.1
  have hmv : ∀ k, k ≠ g → (w3.setCell ⟨g, b * 6, none⟩ (.slice A' (st.blocks[b].phis ++ ([⟨d, []⟩] : List JPhi)).length c')).heap[k]? = w3.heap[k]? := fun k hk => Below.heap_setCell w3 ⟨g, b * 6, none⟩ _ k hk
  have hold : ∀ k ∈ Si ++ (Sa ++ St), w3.heap[k]? = w1.heap[k]? := fun k hk => by
    have h9 : k ∈ Sp ++ (Si ++ (Sa ++ St)) := by simp only [List.mem_append] at hk ⊢; exact .inr hk
    have h8 := hltF k (O.sub k h9).1
    exact (hxx.block k (by omega) (fun h2 => n3 k h2 k hk rfl)).trans (hx.block k h8 (by simp))
  obtain ⟨F', m', hF', hX'⟩ := cl w3 0 (.slice A' (st.blocks[b].phis ++ ([⟨d, []⟩] : List JPhi)).length c') { st.blocks[b] with phis := st.blocks[b].phis ++ [⟨d, []⟩] } (S' ++ (Si ++ (Sa ++ St))) hxw (by omega)
    ⟨_, vi, va, S', Si, Sa, St, rfl, ⟨hs'.move fun k hk => hmv k (by rintro rfl; exact hgS hk), O.cells.i.move fun k hk => (hmv k (hgI k (by simp [hk]))).trans (hold k (by simp [hk])), O.cells.a.move fun k hk => (hmv k (hgI k (by simp [hk]))).trans (hold k (by simp [hk])),
      O.cells.t.move fun k hk => (hmv k (hgI k (by simp [hk]))).trans (hold k (by simp [hk])), rfl⟩⟩
    (fun k hk => by
      rcases List.mem_append.1 hk with h2 | h2
      · rcases hS'2 k h2 with h3 | h3
        · exact .inl (hin k h3)
        · exact .inr ⟨fun h4 => by have := hltF k h4; omega, by have := h.x.size; omega⟩
      · exact .inl (List.mem_append_right _ h2))
    (List.nodup_append.2 ⟨hn' n1 (by simp), n2, fun k hk k' hk' e => hoff k hk (e ▸ hk')⟩)
  have hq9 : q ∉ Sp := fun hk => (O.sub q (hin q hk)).2.2 rfl
  have hg9 : g ∉ Sp := fun hk => (O.sub g (hin g hk)).2.1 rfl
  refine ⟨A', _, c', w3, hrun, hxx.cell (hx.cell hq3 (by simp)) hq9, hxx.cell (hx.cell hc (by simp)) hg9, ?_, F', ?_, hX', fun k hk => ?_⟩
  · rw [hxx.frozen (p := ⟨g, b * 6, none⟩) (by have := hltF g O.gF; show g < _; omega) hg9, hx.frozen (p := ⟨g, b * 6, none⟩) (hltF g O.gF) (by simp)]
    exact O.fz _
  · rw [← set_modify hb]; exact m'
  · rcases hF' k hk with h2 | h2
    · exact .inl h2
    · rcases List.mem_append.1 h2 with h3 | h3
      · rcases hS'2 k h3 with h4 | h4
        · exact .inl (O.sub k (hin k h4)).1
        · exact .inr h4
      · exact .inl (O.sub k (List.mem_append_right _ h3)).1
/-- a phi's values put in -/
theorem phi_fill (h0 : RdS w0 [] vs) (h : MI w0 w q vs F a st vts) (b : Nat) (hb : b < st.blocks.length) (i : Nat) (hi : i < st.blocks[b].phis.length) {Sx : List Nat} {v : Value} {l : List JIn} (hs : SlR kIn 49 w Sx v l) (hoff : ∀ k ∈ Sx, k ∉ F ∧ w0.heap.size ≤ k) (hn : Sx.Nodup) :
    ∃ g cap gp cp u0, w.cell? ⟨q, 3, none⟩ = some (.slice (some ⟨g, 0, none⟩) st.blocks.length cap) ∧ w.cell? ⟨g, b * 6, none⟩ = some (.slice (some ⟨gp, 0, none⟩) st.blocks[b].phis.length cp) ∧ w.cell? ⟨gp, i * 2 + 1, none⟩ = some u0 ∧ w.frozen? ⟨gp, i * 2 + 1, none⟩ = false ∧
      ∃ F', MI w0 (w.setCell ⟨gp, i * 2 + 1, none⟩ v) q vs F' a (st.fillPhi b i l) vts ∧ (∀ k ∈ F', k ∈ F ∨ k ∈ Sx) ∧ Ext F w (w.setCell ⟨gp, i * 2 + 1, none⟩ v) := by
  obtain ⟨g, cap, vp, vi, va, vt, Sp, Si, Sa, St, k3, hvt, O, _, cl, _⟩ := h.opens h0 b hb
  obtain ⟨gp, cp, Sy, cs, hv, hat⟩ := O.cells.p.at i hi
  have hrep : kPhi.rep w Sy (st.blocks[b].phis[i]'hi) cs := hat.rep
  obtain ⟨v0, rfl, hin0⟩ := hrep
  have hc1 := hat.cell 1 rfl
  simp only [kPhi] at hc1
  have hnd := O.nd
  obtain ⟨n1, n2, n3⟩ := List.nodup_append.1 hnd
  have hin : ∀ k ∈ Sp, k ∈ Sp ++ (Si ++ (Sa ++ St)) := fun k hk => by simp [hk]
  have hm := hat.mem
  have hgp : gp ∈ Sp := hm.1
  have hgx : gp ∉ Sx := fun hk => (hoff gp hk).1 (O.sub gp (hin gp hgp)).1
  have hmv : ∀ k, k ≠ gp → (w.setCell ⟨gp, i * 2 + 1, none⟩ v).heap[k]? = w.heap[k]? := fun k hk => Below.heap_setCell w ⟨gp, i * 2 + 1, none⟩ _ k hk
  obtain ⟨S', p1, p2, p3⟩ := hat.putG n1 (w1 := w) (x' := { st.blocks[b].phis[i] with ins := l }) (Sx := Sx) (fun _ _ _ => rfl) 1 (by simp [kPhi]) v ⟨v, rfl, hs.move fun k hk => hmv k (by rintro rfl; exact hgx hk)⟩ (fun k hk => .inr fun h2 => (hoff k hk).1 (O.sub k (hin k h2)).1)
  simp only [kPhi] at p1
  have hX : Ext (Sp ++ (Si ++ (Sa ++ St))) w (w.setCell ⟨gp, i * 2 + 1, none⟩ v) := (Ext.refl _ _).setCell (.inl (hin gp hgp)) v
  have hrest : ∀ k ∈ Si ++ (Sa ++ St), k ≠ gp := fun k hk e => n3 gp hgp k hk e.symm
  have hSx : ∀ k ∈ S', k ∈ Sp ++ (Si ++ (Sa ++ St)) ∨ (k ∉ F ∧ w0.heap.size ≤ k) := fun k hk => (p2 k hk).imp (hin k) (hoff k)
  subst hv
  obtain ⟨F', m', hF', hX'⟩ := cl (w.setCell ⟨gp, i * 2 + 1, none⟩ v) { st.blocks[b] with phis := st.blocks[b].phis.set i { st.blocks[b].phis[i] with ins := l } } (S' ++ (Si ++ (Sa ++ St))) hX
    ⟨_, vi, va, S', Si, Sa, St, rfl, ⟨p1, O.cells.i.move fun k hk => hmv k (hrest k (by simp [hk])), O.cells.a.move fun k hk => hmv k (hrest k (by simp [hk])), O.cells.t.move fun k hk => hmv k (hrest k (by simp [hk])), rfl⟩⟩
    (fun k hk => by
      rcases List.mem_append.1 hk with h2 | h2
      · exact hSx k h2
      · exact .inl (List.mem_append_right _ h2))
    (List.nodup_append.2 ⟨p3 hn, n2, fun k hk k' hk' e => by
      subst e
      rcases p2 k hk with h2 | h2
      · exact n3 k h2 k hk' rfl
      · exact (hoff k h2).1 (O.sub k (List.mem_append_right _ hk')).1⟩)
  refine ⟨g, cap, gp, cp, v0, k3, O.c0, hc1, hat.frozen _, F', ?_, fun k hk => ?_, hX'⟩
  · rw [show st.fillPhi b i l = { st with blocks := st.blocks.set b { st.blocks[b] with phis := st.blocks[b].phis.set i { st.blocks[b].phis[i] with ins := l } } } by
      simp only [MSt.fillPhi]
      rw [← set_modify hb, ← set_modify hi]]
    exact m'
  · rcases hF' k hk with h2 | h2
    · exact .inl h2
    · rcases List.mem_append.1 h2 with h3 | h3
      · exact (p2 k h3).imp (fun h4 => (O.sub k (hin k h4)).1) id
      · exact .inl (O.sub k (List.mem_append_right _ h3)).1
theorem slr_uniq {α : Type} {enc : α → Value} {h1 : ∀ x, (enc x).oneCell' = true} {e : TypeId} {W : World} {S S' : List Nat} {v : Value} {xs ys : List α} (h : SlR (kSc enc h1) e W S v xs) (h' : SlR (kSc enc h1) e W S' v ys) : S = S' := by
  rcases slr_sc.1 h with ⟨A, rfl, _, rfl⟩ | ⟨g, cap, C, rfl, hc, _, _, _, _, rfl, _⟩
  · rcases slr_sc.1 h' with ⟨A', hv, _, rfl⟩ | ⟨g', cap', C', hv, hc', _, _, _, _, rfl, _⟩
    · rfl
    · injection hv with e1 e2 e3; omega
  · rcases slr_sc.1 h' with ⟨A', hv, _, rfl⟩ | ⟨g', cap', C', hv, hc', _, _, _, _, rfl, _⟩
    · injection hv with e1 e2 e3; omega
    · injection hv with e1 e2 e3
      injection e1 with e1
      injection e1 with e1
      rw [e1]
/-- more at hand -/
theorem live_app (h : MI w0 w q vs F a st vts) (hx : Ext [] w w1) {vl x : Value} (hc : w.cell? ⟨q, 5, none⟩ = some vl) (l : List Int) (hsrc : Src w1 x l.length (l.map (Value.int .i64))) (hl : st.live.length + l.length ≤ 1000000) :
    ∃ A' n' c' w2, (Builtin.append_ #[22, 22] 22 #[vl, x]).run Try.prog w1 = .ok (.slice A' n' c') w2 ∧ w2.cell? ⟨q, 5, none⟩ = some vl ∧ w2.frozen? ⟨q, 5, none⟩ = false ∧ (∀ Sl, SlR kInt 3 w Sl vl st.live → Ext Sl w1 w2) ∧
      ∃ F', MI w0 (w2.setCell ⟨q, 5, none⟩ (.slice A' n' c')) q vs F' a { st with live := st.live ++ l } vts ∧ FpStep F w (w2.setCell ⟨q, 5, none⟩ (.slice A' n' c')) F' := by
  obtain ⟨vl', Sl, k5, hlv, hlF, hql, hnl, close⟩ := h.m.liveAt
  rw [hc] at k5
  injection k5 with k5
  subst k5
  obtain ⟨v', w2, S', hrun, hs', hxx, hf', hn'⟩ := run_append_sl (ty := 22) (d := kInt) (ys := l) ei_int (hlv.ext0 hx) x (l.map (Value.int .i64)) (List.replicate l.length []) (elems_ints l) (by simp [kInt, kSc]) (by
    intro u hu; obtain ⟨y, _, rfl⟩ := List.mem_map.1 hu; rfl) hsrc (by simp) (by simp only [maxLen]; omega) (by omega)
  obtain ⟨A', c', rfl, _⟩ := hs'.shape
  have hsz := hx.size
  obtain ⟨F', m', hF'⟩ := close w1 w2 S' _ (st.live ++ l) hx hxx hs' (fun k hk => by
    rcases hf' k hk with h2 | h2 | h2
    · exact .inl h2
    · exact .inr (by omega)
    · simp at h2) (hn' hnl (by simp))
  obtain ⟨_, _, hfz, _⟩ := h.m.cells
  have hqlt := lt_of_cell hc
  exact ⟨A', _, c', w2, hrun, hxx.cell (hx.cell hc (by simp)) hql, by rw [hxx.frozen (p := ⟨q, 5, none⟩) (by show q < _; simp at hqlt; omega) hql, hx.frozen (p := ⟨q, 5, none⟩) (by simpa using hqlt) (by simp)]; exact hfz 5, fun Sl' h9 => by rw [slr_uniq h9 hlv]; exact hxx, F', h.step m' hF', hF'⟩
/-- nothing at hand -/
theorem live_nil (h : MI w0 w q vs F a st vts) (hx : Ext [] w w1) (A : Option Addr) :
    ∃ F', MI w0 (w1.setCell ⟨q, 5, none⟩ (.slice A 0 0)) q vs F' a { st with live := [] } vts ∧ FpStep F w (w1.setCell ⟨q, 5, none⟩ (.slice A 0 0)) F' := by
  obtain ⟨vl', Sl, k5, hlv, hlF, hql, hnl, close⟩ := h.m.liveAt
  obtain ⟨F', m', hF'⟩ := close w1 w1 [] (.slice A 0 0) [] hx (Ext.refl _ _) (.inl ⟨A, rfl, rfl, rfl⟩) (by simp) (by simp)
  exact ⟨F', h.step m' hF', hF'⟩
end
end Go.Proofs.Ytkmgbejhbkbaoaa

/- The maker of functions: what Made holds beside the maker. -/
namespace Go.Proofs.Ytkmgbejhbkbaoaa
set_option linter.unusedSimpArgs false
set_option linter.unusedVariables false
open Go.RowKit

def ints (l : List Nat) : Array Value := (l.map fun k : Nat => Value.int .i64 (k : Int)).toArray
def bools (l : List Bool) : Array Value := (l.map Value.bool).toArray
theorem ints_get {l : List Nat} {b : Nat} (hb : b < l.length) : (ints l)[b]? = some (.int .i64 ((l.getD b 0 : Nat) : Int)) := by
  simp [ints, List.getD_eq_getElem?_getD, hb]
theorem ints_set (l : List Nat) (b k : Nat) : (ints l).setIfInBounds b (.int .i64 (k : Int)) = ints (l.set b k) := by simp [ints]
theorem ints_zero (n : Nat) : madeCells #[.int .i64 0] n = ints (List.replicate n 0) := by
  refine Array.ext (by simp [madeCells, ints]) fun i h1 h2 => ?_
  simp [madeCells, ints, Nat.mod_one]
theorem bools_get {l : List Bool} {b : Nat} (hb : b < l.length) : (bools l)[b]? = some (.bool (l[b]'hb)) := by
  simp [bools, hb]
theorem bools_set (l : List Bool) (b : Nat) (k : Bool) : (bools l).setIfInBounds b (.bool k) = bools (l.set b k) := by simp [bools]
theorem bools_false (n : Nat) : madeCells #[.bool false] n = bools (List.replicate n false) := by
  refine Array.ext (by simp [madeCells, bools]) fun i h1 h2 => ?_
  simp [madeCells, bools, Nat.mod_one]
theorem rows_blk {W : World} {S : List Nat} {g n cap : Nat} {R : List (List Int)} (h : SlR kRowI 22 W S (.slice (some ⟨g, 0, none⟩) n cap) R) (h0 : 0 < R.length) : ∃ C, Blk W g 22 C ∧ ∀ k u, W.cell? ⟨g, k, none⟩ = some u → C[k]? = some u := by
  rcases h with ⟨A, _, rfl, _⟩ | ⟨g', cap', C, Ss, hv, h1, h2, h3, hb, hC, hgn, rfl, hE⟩
  · simp at h0
  · injection hv with e1 e2 e3
    injection e1 with e1
    injection e1 with e1
    subst e1
    refine ⟨C, hb, fun k u hu => ?_⟩
    simpa [World.cell?, show W.heap[g]? = _ from hb] using hu

/-- the maker, where the function is told, where blocks lead, how many phis they have -/
structure MB (w wr : World) (q : Nat) (vs : Value) (F : List Nat) (a : Nat) (st : MSt) (vts : List Value) (g5 : Nat) (C5 : Array Value) (gp : Nat) (pr : List Nat) : Prop where
  mi : MI w wr q vs F a st vts
  l2 : Lo w wr F w.heap.size 26 #[.int .i64 0, .slice none 0 0]
  l5 : Lo w wr F g5 22 C5
  lp : Lo w wr F gp 3 (ints pr)
  ne : w.heap.size ≠ gp ∧ g5 ≠ gp
section
variable {w wr w' : World} {q : Nat} {vs : Value} {F F' : List Nat} {a a' : Nat} {st st' : MSt} {vts vts' : List Value} {g5 : Nat} {C5 : Array Value} {gp gd : Nat} {pr : List Nat} {D : List Bool}
theorem MB.step (h : MB w wr q vs F a st vts g5 C5 gp pr) (hm : MI w w' q vs F' a' st' vts') (hx : FpStep F wr w' F') : MB w w' q vs F' a' st' vts' g5 C5 gp pr :=
  ⟨hm, h.l2.step hx, h.l5.step hx, h.lp.step hx, h.ne⟩
theorem MB.stepE (h : MB w wr q vs F a st vts g5 C5 gp pr) (hm : MkE w' q vs F' a' st' vts') (hx : FpStep F wr w' F') : MB w w' q vs F' a' st' vts' g5 C5 gp pr := h.step (h.mi.step hm hx) hx
theorem MB.same (h : MB w wr q vs F a st vts g5 C5 gp pr) (hm : MkE w' q vs F a' st' vts') (hx : Ext F wr w') : MB w w' q vs F a' st' vts' g5 C5 gp pr := h.stepE hm ⟨hx, fun _ h => .inl h⟩
theorem MB.ext0 (h : MB w wr q vs F a st vts g5 C5 gp pr) (hx : Ext [] wr w') : MB w w' q vs F a st vts g5 C5 gp pr := h.step (h.mi.ext0 hx) (.ext0 hx)
theorem MB.setP (h : MB w wr q vs F a st vts g5 C5 gp pr) (h0 : RdS w [] vs) (b k : Nat) : MB w (wr.setCell ⟨gp, b, none⟩ (.int .i64 (k : Int))) q vs F a st vts g5 C5 gp (pr.set b k) := by
  have hx : Ext [gp] wr (wr.setCell ⟨gp, b, none⟩ (.int .i64 (k : Int))) := (Ext.refl _ _).setCell (.inl (by simp)) _
  refine ⟨h.mi.own h0 hx (by intro x hx; simp at hx; subst hx; exact ⟨h.lp.off, h.lp.new⟩), h.l2.ext hx (by simpa using h.ne.1), h.l5.ext hx (by simpa using h.ne.2), ?_, h.ne⟩
  rw [← ints_set]
  exact h.lp.set b _
theorem MB.phis (h : MB w wr q vs F a st vts g5 C5 gp pr) {b : Nat} (hb : b < pr.length) : wr.cell? ⟨gp, b, none⟩ = some (.int .i64 ((pr.getD b 0 : Nat) : Int)) ∧ wr.frozen? ⟨gp, b, none⟩ = false := ⟨h.lp.blk.cell (ints_get hb), h.lp.blk.frozen b⟩
/-- with it, which blocks are done -/
structure MD (w wr : World) (q : Nat) (vs : Value) (F : List Nat) (a : Nat) (st : MSt) (vts : List Value) (g5 : Nat) (C5 : Array Value) (gp : Nat) (pr : List Nat) (gd : Nat) (D : List Bool) : Prop where
  mb : MB w wr q vs F a st vts g5 C5 gp pr
  ld : Lo w wr F gd 4 (bools D)
  nd : w.heap.size ≠ gd ∧ g5 ≠ gd ∧ gp ≠ gd
theorem MD.step (h : MD w wr q vs F a st vts g5 C5 gp pr gd D) (hm : MI w w' q vs F' a' st' vts') (hx : FpStep F wr w' F') : MD w w' q vs F' a' st' vts' g5 C5 gp pr gd D :=
  ⟨h.mb.step hm hx, h.ld.step hx, h.nd⟩
theorem MD.stepE (h : MD w wr q vs F a st vts g5 C5 gp pr gd D) (hm : MkE w' q vs F' a' st' vts') (hx : FpStep F wr w' F') : MD w w' q vs F' a' st' vts' g5 C5 gp pr gd D := h.step (h.mb.mi.step hm hx) hx
theorem MD.same (h : MD w wr q vs F a st vts g5 C5 gp pr gd D) (hm : MkE w' q vs F a' st' vts') (hx : Ext F wr w') : MD w w' q vs F a' st' vts' g5 C5 gp pr gd D := h.stepE hm ⟨hx, fun _ h => .inl h⟩
theorem MD.ext0 (h : MD w wr q vs F a st vts g5 C5 gp pr gd D) (hx : Ext [] wr w') : MD w w' q vs F a st vts g5 C5 gp pr gd D := h.step (h.mb.mi.ext0 hx) (.ext0 hx)
theorem MD.put (h : MD w wr q vs F a st vts g5 C5 gp pr gd D) (h0 : RdS w [] vs) (b : Nat) : MD w (wr.setCell ⟨gd, b, none⟩ (.bool true)) q vs F a st vts g5 C5 gp pr gd (D.set b true) := by
  have hx : Ext [gd] wr (wr.setCell ⟨gd, b, none⟩ (.bool true)) := (Ext.refl _ _).setCell (.inl (by simp)) _
  refine ⟨⟨h.mb.mi.own h0 hx (by intro x hx; simp at hx; subst hx; exact ⟨h.ld.off, h.ld.new⟩), h.mb.l2.ext hx (by simpa using h.nd.1), h.mb.l5.ext hx (by simpa using h.nd.2.1), h.mb.lp.ext hx (by simpa using h.nd.2.2), h.mb.ne⟩, ?_, h.nd⟩
  rw [← bools_set]
  exact h.ld.set b _
theorem MD.done (h : MD w wr q vs F a st vts g5 C5 gp pr gd D) {b : Nat} (hb : b < D.length) : wr.cell? ⟨gd, b, none⟩ = some (.bool (D[b]'hb)) ∧ wr.frozen? ⟨gd, b, none⟩ = false := ⟨h.ld.blk.cell (bools_get hb), h.ld.blk.frozen b⟩
end
end Go.Proofs.Ytkmgbejhbkbaoaa

/- The maker of functions: which block is next, at hand in the walk. -/
namespace Go.Proofs.Ytkmgbejhbkbaoaa
set_option linter.unusedSimpArgs false
set_option linter.unusedVariables false
open Go.RowKit

abbrev kRowB : Kd (List Bool) := kSl 4 kBool
theorem Try.info63 : (Try.prog.info? 63).map (fun i => (i.zero, i.size, i.bytes)) = some (some (.slice none 0 0), 1, 24) := by kernel_rfl
theorem ei_rowsB : EI Try.prog 64 63 1 24 := ei_of Try.underlying64 Try.info63 rfl (by decide)

/-- a row of one's own, made since w0, beside what F takes up -/
structure Bes {α : Type} (w0 w : World) (F : List Nat) (d : Kd α) (e : TypeId) (S : List Nat) (v : Value) (xs : List α) : Prop where
  row : SlR d e w S v xs
  off : ∀ k ∈ S, k ∉ F
  new : ∀ k ∈ S, w0.heap.size ≤ k
  nd : S.Nodup
section
variable {α : Type} {w0 w w' : World} {F F' M S : List Nat} {d : Kd α} {e : TypeId} {v : Value} {xs : List α}
theorem Bes.step (h : Bes w0 w F d e S v xs) (hx : FpStep F w w' F') : Bes w0 w' F' d e S v xs :=
  ⟨h.row.ext hx.1 h.off, fun k hk hk2 => (hx.2 k hk2).elim (h.off k hk) fun h2 => by have := h.row.lt k hk; omega, h.new, h.nd⟩
theorem Bes.ext0 (h : Bes w0 w F d e S v xs) (hx : Ext [] w w') : Bes w0 w' F d e S v xs := h.step (.ext0 hx)
theorem Bes.ext (h : Bes w0 w F d e S v xs) (hx : Ext M w w') (hM : ∀ k ∈ S, k ∉ M) : Bes w0 w' F d e S v xs := ⟨h.row.ext hx hM, h.off, h.new, h.nd⟩
end
section
variable {w wr w' : World} {q : Nat} {vs : Value} {F F' M : List Nat} {a a' : Nat} {st st' : MSt} {vts vts' : List Value} {g5 : Nat} {C5 : Array Value} {gp gd : Nat} {pr : List Nat} {D : List Bool}
theorem MB.own (h : MB w wr q vs F a st vts g5 C5 gp pr) (h0 : RdS w [] vs) (hx : Ext M wr w') (hM : ∀ k ∈ M, k ∉ F ∧ w.heap.size < k ∧ k ≠ g5 ∧ k ≠ gp) : MB w w' q vs F a st vts g5 C5 gp pr :=
  ⟨h.mi.own h0 hx fun k hk => ⟨(hM k hk).1, by have := (hM k hk).2.1; omega⟩, h.l2.ext hx fun hk => by have := (hM _ hk).2.1; omega, h.l5.ext hx fun hk => (hM _ hk).2.2.1 rfl, h.lp.ext hx fun hk => (hM _ hk).2.2.2 rfl, h.ne⟩
theorem MD.own (h : MD w wr q vs F a st vts g5 C5 gp pr gd D) (h0 : RdS w [] vs) (hx : Ext M wr w') (hM : ∀ k ∈ M, k ∉ F ∧ w.heap.size < k ∧ k ≠ g5 ∧ k ≠ gp ∧ k ≠ gd) : MD w w' q vs F a st vts g5 C5 gp pr gd D :=
  ⟨h.mb.own h0 hx fun k hk => ⟨(hM k hk).1, (hM k hk).2.1, (hM k hk).2.2.1, (hM k hk).2.2.2.1⟩, h.ld.ext hx fun hk => (hM _ hk).2.2.2.2 rfl, h.nd⟩
theorem MD.lts (h : MD w wr q vs F a st vts g5 C5 gp pr gd D) : w.heap.size < wr.heap.size ∧ g5 < wr.heap.size ∧ gp < wr.heap.size ∧ gd < wr.heap.size := ⟨h.mb.l2.blk.lt, h.mb.l5.blk.lt, h.mb.lp.blk.lt, h.ld.blk.lt⟩
theorem MB.lts (h : MB w wr q vs F a st vts g5 C5 gp pr) : w.heap.size < wr.heap.size ∧ g5 < wr.heap.size ∧ gp < wr.heap.size := ⟨h.l2.blk.lt, h.l5.blk.lt, h.lp.blk.lt⟩
/-- a row of one's own changed: the maker stays -/
theorem MD.beside {α : Type} {d : Kd α} {e : TypeId} {S S' : List Nat} {v v' : Value} {xs xs' : List α} {wz w1 : World} (h : MD w w1 q vs F a st vts g5 C5 gp pr gd D) (h0 : RdS w [] vs) (hb : Bes wz w1 F d e S v xs) (hz : w.heap.size < wz.heap.size ∧ g5 < wz.heap.size ∧ gp < wz.heap.size ∧ gd < wz.heap.size)
    (hx : Ext S w1 w') (hr : SlR d e w' S' v' xs') (hS : ∀ k ∈ S', k ∈ S ∨ (k ∉ F ∧ wz.heap.size ≤ k)) (hn : S'.Nodup) : MD w w' q vs F a st vts g5 C5 gp pr gd D ∧ Bes wz w' F d e S' v' xs' := by
  refine ⟨h.own h0 hx fun k hk => ?_, hr, fun k hk => (hS k hk).elim (hb.off k) fun h2 => h2.1, fun k hk => (hS k hk).elim (hb.new k) fun h2 => h2.2, hn⟩
  have := hb.new k hk
  exact ⟨hb.off k hk, by omega, by omega, by omega, by omega⟩
theorem MB.beside {α : Type} {d : Kd α} {e : TypeId} {S S' : List Nat} {v v' : Value} {xs xs' : List α} {wz w1 : World} (h : MB w w1 q vs F a st vts g5 C5 gp pr) (h0 : RdS w [] vs) (hb : Bes wz w1 F d e S v xs) (hz : w.heap.size < wz.heap.size ∧ g5 < wz.heap.size ∧ gp < wz.heap.size)
    (hx : Ext S w1 w') (hr : SlR d e w' S' v' xs') (hS : ∀ k ∈ S', k ∈ S ∨ (k ∉ F ∧ wz.heap.size ≤ k)) (hn : S'.Nodup) : MB w w' q vs F a st vts g5 C5 gp pr ∧ Bes wz w' F d e S' v' xs' := by
  refine ⟨h.own h0 hx fun k hk => ?_, hr, fun k hk => (hS k hk).elim (hb.off k) fun h2 => h2.1, fun k hk => (hS k hk).elim (hb.new k) fun h2 => h2.2, hn⟩
  have := hb.new k hk
  exact ⟨hb.off k hk, by omega, by omega, by omega⟩

/-- a row of one's own becomes the maker's -/
theorem MB.take {Sx : List Nat} (h : MB w wr q vs F a st vts g5 C5 gp pr) (hm : MI w w' q vs F' a' st' vts') (hx : Ext F wr w') (hF : ∀ k ∈ F', k ∈ F ∨ k ∈ Sx) (hS : ∀ k ∈ Sx, w.heap.size < k ∧ g5 < k ∧ gp < k) : MB w w' q vs F' a' st' vts' g5 C5 gp pr :=
  ⟨hm, ⟨h.l2.blk.ext hx h.l2.off, fun hk => (hF _ hk).elim h.l2.off fun h2 => by have := hS _ h2; omega, h.l2.new⟩, ⟨h.l5.blk.ext hx h.l5.off, fun hk => (hF _ hk).elim h.l5.off fun h2 => by have := hS _ h2; omega, h.l5.new⟩,
    ⟨h.lp.blk.ext hx h.lp.off, fun hk => (hF _ hk).elim h.lp.off fun h2 => by have := hS _ h2; omega, h.lp.new⟩, h.ne⟩
end

/-! ### plain -/
def gR (R : List (List Int)) (n : Nat) : List (List Nat) := R.map fun t => keptF t n
theorem ofF_R {bs : List JBlock} {R : List (List Int)} {n : Nat} (h : bs.map (·.term.to) = R) (hl : bs.length = n) : ofF bs = gR R n := by
  subst h hl
  simp [ofF, gR, List.map_map, Function.comp_def]
/-- who comes where without whom -/
def AwOk (G : List (List Nat)) (n : Nat) (rows : List (List Bool)) : Prop := ∀ a (ha : a < rows.length), rows[a].length = n ∧ ∀ x, Rwo G a x → rows[a][x]? = some true
theorem AwOk.app {G : List (List Nat)} {n : Nat} {rows : List (List Bool)} {rs : List Bool} (h : AwOk G n rows) (hl : rs.length = n) (hr : ∀ x, Rwo G rows.length x → rs[x]? = some true) : AwOk G n (rows ++ [rs]) := by
  intro a ha
  by_cases e : a < rows.length
  · rw [List.getElem_append_left e]; exact h a e
  · have e2 : a = rows.length := by simp at ha; omega
    subst e2
    simp only [List.getElem_append_right (Nat.le_refl _), Nat.sub_self, List.getElem_cons_zero]
    exact ⟨hl, hr⟩
def awB (D : List Bool) (rows : List (List Bool)) (b a : Nat) : Bool := a == b || (D.getD a false || (rows.getD a []).getD b false)
def rdB (D : List Bool) (rows : List (List Bool)) (b i : Nat) : Bool := !(D.getD b false) && (List.range i).all fun a => awB D rows b a
theorem rdB_zero (D : List Bool) (rows : List (List Bool)) (b : Nat) : rdB D rows b 0 = !(D.getD b false) := by simp [rdB]
theorem rdB_succ (D : List Bool) (rows : List (List Bool)) (b i : Nat) : rdB D rows b (i + 1) = (rdB D rows b i && awB D rows b i) := by
  simp [rdB, List.range_succ, List.all_append, Bool.and_assoc]
theorem rdB_no {G : List (List Nat)} {n : Nat} {D : List Bool} {rows : List (List Bool)} {b : Nat} (hA : AwOk G n rows) (hl : rows.length = n) (hD : D.length = n) (h : rdB D rows b n = false) : ¬ Rdy G D b := by
  rintro ⟨h1, h2⟩
  have : rdB D rows b n = true := by
    simp only [rdB, Bool.and_eq_true, Bool.not_eq_true', List.all_eq_true, List.mem_range, awB, Bool.or_eq_true, beq_iff_eq]
    refine ⟨by rw [List.getD_eq_getElem?_getD, h1]; rfl, fun a ha => ?_⟩
    by_cases e : a = b
    · exact .inl e
    · refine .inr ?_
      cases hDa : D[a]'(by omega) with
      | true => exact .inl (by rw [List.getD_eq_getElem?_getD, List.getElem?_eq_getElem (by omega), hDa]; rfl)
      | false =>
        have := (hA a (by omega)).2 b (h2 a e (by rw [List.getElem?_eq_getElem (by omega), hDa]))
        refine .inr ?_
        rw [List.getD_eq_getElem?_getD (l := rows), List.getElem?_eq_getElem (by omega : a < rows.length)]
        simp only [Option.getD_some]
        rw [List.getD_eq_getElem?_getD, this]; rfl
  rw [this] at h; cases h
theorem rdB_yes {D : List Bool} {rows : List (List Bool)} {b n : Nat} (hb : b < D.length) (h : rdB D rows b n = true) : D[b]? = some false := by
  simp only [rdB, Bool.and_eq_true, Bool.not_eq_true'] at h
  have := h.1
  rw [List.getD_eq_getElem?_getD, List.getElem?_eq_getElem hb] at this
  rw [List.getElem?_eq_getElem hb]
  simpa using this
theorem AtHand.nil (P : Int) (bs : List JBlock) (b : Nat) : AtHand P bs b [] := by intro v hv; cases hv
theorem AtHand.par {P : Int} {bs : List JBlock} {b : Nat} {l : List Int} (h : AtHand P bs b l) {i : Int} (h0 : 0 ≤ i) (h1 : i < P) : AtHand P bs b (l ++ [i]) := by
  intro v hv
  rcases List.mem_append.1 hv with hv | hv
  · exact h v hv
  · simp at hv; subst hv; exact .inl ⟨h0, h1⟩
theorem AtHand.add {P : Int} {bs : List JBlock} {b : Nat} {l l2 : List Int} (h : AtHand P bs b l) {a : Nat} (ha : a < bs.length) (h1 : a = b ∨ ¬ Rwo (ofF bs) a b) (h2 : ∀ v ∈ l2, v ∈ valsB bs[a]) : AtHand P bs b (l ++ l2) := by
  intro v hv
  rcases List.mem_append.1 hv with hv | hv
  · exact h v hv
  · exact .inr ⟨a, ha, h1, h2 v hv⟩
theorem phi_vals {x : JBlock} {i : Nat} (hi : i < x.phis.length) : ∀ v ∈ [x.phis[i].dst], v ∈ valsB x := by
  intro v hv
  simp at hv; subst hv
  exact List.mem_append_left _ (List.mem_map.2 ⟨_, List.getElem_mem hi, rfl⟩)
theorem ins_vals {x : JBlock} {i : Nat} (hi : i < x.ins.length) : ∀ v ∈ makesF x.ins[i], v ∈ valsB x := fun v hv => List.mem_append_right _ (List.mem_flatMap.2 ⟨_, List.getElem_mem hi, hv⟩)
end Go.Proofs.Ytkmgbejhbkbaoaa

/- A block of a function's code, by its number. -/
namespace Go.Proofs.Ytkmgbejhbkbaoaa
set_option linter.unusedSimpArgs false
set_option linter.unusedVariables false
def findBlock (n : Nat) : Code → Option Code
  | .block k c => if k = n then some (.block k c) else findBlock n c
  | .loop c => findBlock n c
  | .scope c => findBlock n c
  | .seq a b => match findBlock n a with
    | some c => some c
    | none => findBlock n b
  | .cond _ a b => match findBlock n a with
    | some c => some c
    | none => findBlock n b
  | _ => none
end Go.Proofs.Ytkmgbejhbkbaoaa
