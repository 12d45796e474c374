/- The program's graph: common. -/
import Derived.Test.YtkmgbejhbkbaoaaG8
import Derived.Test.YtkmgbejhbkbaoaaM6
namespace Go.Proofs.Ytkmgbejhbkbaoaa
set_option linter.unusedSimpArgs false
set_option linter.unusedVariables false
open Go.RowKit

def numI (n : Nat) (num : Nat → Nat) : List Int := (List.range n).map fun x => (num x : Int)
@[simp] theorem numI_len (n : Nat) (num : Nat → Nat) : (numI n num).length = n := by simp [numI]
theorem numI_get {n : Nat} {num : Nat → Nat} {x : Nat} (hx : x < (numI n num).length) : (numI n num)[x] = (num x : Int) := by simp [numI]

theorem sl_cell {w : World} {S : List Nat} {A : Option Addr} {m c : Nat} {l : List Int} (h : SlR kInt 3 w S (.slice A m c) l) (i : Nat) (hi : i < l.length) : ∃ b, A = some ⟨b, 0, none⟩ ∧ w.cell? ⟨b, i, none⟩ = some (.int .i64 l[i]) := by
  obtain ⟨b, cap, hv, _, hc, _⟩ := h.cell i hi
  cases hv
  exact ⟨b, rfl, hc⟩

set_option maxRecDepth 20000 in
set_option maxHeartbeats 400000 in
theorem common_calls {w : World} {S1 S2 : List Nat} {v1 v2 : Value} {n : Nat} {D : Nat → Option Nat} {num : Nat → Nat} (h1 : SlR kInt 3 w S1 v1 (outL n D)) (h2 : SlR kInt 3 w S2 v2 (numI n num))
    (hD : ∀ x z, D x = some z → z < n) (k a b c : Nat) (h : comN D num k a b = some c) (ha : a < n) (hb : b < n) :
    Calls Try.prog 37 #[v1, v2, .int .i64 (a : Int), .int .i64 (b : Int)] w fun e w' => e = .returned (.int .i64 (c : Int)) ∧ Ext [] w w' := by
  obtain ⟨A1, c1, rfl, _⟩ := h1.shape
  obtain ⟨A2, c2, rfl, _⟩ := h2.shape
  simp only [outL_len, numI_len] at *
  have HD := Lib.hid hD
  have H := Lib.hid h
  clear hD h
  go_enter Try.func37, Try.ntmps37
  go_wp2
  go_step3
  go_wp2
  go_step3
  go_wp2
  go_loopg [2, 3] k (fun k va vb wr => ∃ a b : Nat, va = .int .i64 (a : Int) ∧ vb = .int .i64 (b : Int) ∧ a < n ∧ b < n ∧ Hid (comN D num k a b = some c) ∧ ∃ m, wr = w.drewN m)
  case atStart => exact ⟨a, b, rfl, rfl, ha, hb, H, 0, rfl⟩
  case round =>
    obtain ⟨a1, b1, rfl, rfl, ha1, hb1, H1, m, rfl⟩ := hrel
    clear H
    cases gk with
    | zero => exact absurd H1.out (by simp [comN])
    | succ k1 =>
      have h := H1.out
      clear H1
      simp only [comN] at h
      obtain ⟨p2, rfl, hca⟩ := sl_cell h2 a1 (by simpa using ha1)
      obtain ⟨_, hx, hcb⟩ := sl_cell h2 b1 (by simpa using hb1)
      cases hx
      obtain ⟨p1, rfl, hia⟩ := sl_cell h1 a1 (by simpa using ha1)
      obtain ⟨_, hx, hib⟩ := sl_cell h1 b1 (by simpa using hb1)
      cases hx
      rw [numI_get] at hca hcb
      rw [outL_get] at hia hib
      split at h
      · rename_i hlt
        have hlt' : (num b1 : Int) < (num a1 : Int) := by omega
        cases e : D a1 with
        | none => rw [e] at h; cases h
        | some z =>
          rw [e] at h hia
          have hz := HD.out a1 z e
          simp only [oi] at h hia
          have H := Lib.hid h
          clear h e hlt
          go_wp2
          go_quiet (fail)
          go_wp2
          go_roundg k1
          case measure => omega
          case rel => exact ⟨_, _, rfl, rfl, hz, hb1, H, _, rfl⟩
      · rename_i hlt
        have hlt' : ¬ (num b1 : Int) < (num a1 : Int) := by omega
        split at h
        · rename_i hlt2
          have hlt2' : (num a1 : Int) < (num b1 : Int) := by omega
          cases e : D b1 with
          | none => rw [e] at h; cases h
          | some z =>
            rw [e] at h hib
            have hz := HD.out b1 z e
            simp only [oi] at h hib
            have H := Lib.hid h
            clear h e hlt hlt2
            go_wp2
            go_quiet (fail)
            go_wp2
            go_quiet (fail)
            go_wp2
            go_roundg k1
            case measure => omega
            case rel => exact ⟨_, _, rfl, rfl, ha1, hz, H, _, rfl⟩
        · rename_i hlt2
          have hlt2' : ¬ (num a1 : Int) < (num b1 : Int) := by omega
          obtain rfl := Option.some.inj h
          clear hlt hlt2
          go_wp2
          go_quiet (fail)
          go_wp2
          go_quiet (fail)
          go_wp2
          rw [Exit.noGoto_ret]
          go_ret
          exact ⟨rfl, (((Ext.refl _ _).drewN _).drewN _).drewN _⟩

/-- numbers that come one by one: those of the first i of a row -/
def npart (o : List Nat) (n i : Nat) : List Int := (List.range n).map fun x => if o.idxOf x < i then (o.idxOf x : Int) else -1
@[simp] theorem npart_len (o : List Nat) (n i : Nat) : (npart o n i).length = n := by simp [npart]
theorem npart_zero (o : List Nat) (n : Nat) : npart o n 0 = List.replicate n (-1) := by
  refine List.ext_getElem (by simp) fun i h1 h2 => ?_
  simp [npart]
theorem npart_set {o : List Nat} {n i : Nat} (hn : o.Nodup) (hi : i < o.length) : (npart o n i).set o[i] (i : Int) = npart o n (i + 1) := by
  refine List.ext_getElem (by simp) fun x h1 h2 => ?_
  have hx : x < n := by simpa using h2
  have hid : o.idxOf o[i] = i := List.Nodup.idxOf_getElem hn i hi
  rw [List.getElem_set]
  simp only [npart, List.getElem_map, List.getElem_range]
  by_cases e : o[i] = x
  · rw [if_pos e, ← e, hid, if_pos (by omega)]
  · rw [if_neg e]
    have hne : o.idxOf x ≠ i := fun h => by
      by_cases hm : x ∈ o
      · have h3 := List.idxOf_lt_length_iff.2 hm
        have h4 : o[o.idxOf x] = x := List.getElem_idxOf h3
        simp only [h] at h4
        exact e h4
      · rw [List.idxOf_eq_length hm] at h; omega
    by_cases h3 : o.idxOf x < i
    · rw [if_pos h3, if_pos (by omega)]
    · rw [if_neg h3, if_neg (by omega)]
theorem npart_all {g : List (List Nat)} (hg : Good g) (ha : AllR g) : npart (orderF g) g.length g.length = numI g.length (numF g) := by
  refine List.ext_getElem (by simp) fun x h1 h2 => ?_
  have hx : x < g.length := by simpa using h2
  have ho := orderF_ord ha.1 (fun row hr b hb => (hg row hr).2 b hb)
  have h3 := List.idxOf_lt_length_iff.2 ((ho.mem x).2 (ha.2 x hx))
  rw [order_len hg ha] at h3
  simp only [npart, numI, List.getElem_map, List.getElem_range, numF]
  rw [if_pos h3]
theorem fill_set {n i : Nat} (z u : Int) (hi : i < n) : (part (List.replicate n u) z i).set i u = part (List.replicate n u) z (i + 1) := by
  have := part_set (List.replicate n u) z (i := i) (by simpa using hi)
  simpa using this
theorem outL_none (n : Nat) : outL n (fun _ => none) = List.replicate n (-1) := by
  refine List.ext_getElem (by simp) fun i h1 h2 => ?_
  rw [outL_get]; simp [oi]
end Go.Proofs.Ytkmgbejhbkbaoaa
