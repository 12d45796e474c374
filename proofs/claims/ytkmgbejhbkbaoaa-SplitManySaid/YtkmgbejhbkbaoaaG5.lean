/- The program's graph: its edges, one by one. -/
import Derived.Test.YtkmgbejhbkbaoaaG4
import Derived.Test.YtkmgbejhbkbaoaaL4
namespace Go.Proofs.Ytkmgbejhbkbaoaa
set_option linter.unusedSimpArgs false
set_option linter.unusedVariables false
open Go.RowKit Go.Shelf
attribute [local go_sem] Oper.semAt_some

/-- the edges, in order: those of the first k rows -/
def edgesTo (g : List (List Nat)) (k : Nat) : List (Nat × Nat) := (g.take k).zipIdx.flatMap fun p => p.1.map fun b => (p.2, b)
def edgesF (g : List (List Nat)) : List (Nat × Nat) := edgesTo g g.length
theorem edgesTo_succ (g : List (List Nat)) {k : Nat} (hk : k < g.length) : edgesTo g (k + 1) = edgesTo g k ++ g[k].map fun b => (k, b) := by
  unfold edgesTo
  rw [List.take_succ_eq_append_getElem hk, List.zipIdx_append, List.flatMap_append]
  simp [Nat.min_eq_left (Nat.le_of_lt hk)]
theorem edgesTo_prefix (g : List (List Nat)) {k : Nat} (hk : k ≤ g.length) : edgesTo g k <+: edgesF g := by
  have key : ∀ d, k + d ≤ g.length → edgesTo g k <+: edgesTo g (k + d) := by
    intro d
    induction d with
    | zero => intro _; exact List.prefix_refl _
    | succ d ih =>
      intro hd
      rw [← Nat.add_assoc, edgesTo_succ g (by omega)]
      exact (ih (by omega)).trans (List.prefix_append _ _)
  have := key (g.length - k) (by omega)
  rwa [show k + (g.length - k) = g.length from by omega] at this
def encE (x : Nat × Nat) : Array Value := #[.int .i64 (x.1 : Int), .int .i64 (x.2 : Int)]

set_option maxRecDepth 20000 in
set_option maxHeartbeats 800000 in
theorem edges1_iter {w : World} {S : List Nat} {v : Value} {g : List (List Nat)} (h : SlR kRow 22 w S v g) (hg : Good g) (hn : g.length ≤ 1073741824) {B : Nat} (hB : w.cell? ⟨B, 0, none⟩ = some v) :
    IterFp 4 Try.prog 75 #[.pointer (some ⟨B, 0, none⟩)] encE (edgesF g) (B :: S) w := by
  intro l T Tx So W hx hT hY h0 hSo
  obtain ⟨A, cap, rfl, hcap⟩ := h.shape
  have hB1 := hx.cell hB (by simp)
  have h1 := h.ext0 hx
  refine callsIn_of_wp Try.func75 rfl trivial ?_ rfl
  simp only [Try.ntmps75, List.size_toArray, List.length_cons, List.length_nil, Nat.reduceAdd, Nat.reduceSub, Array.replicate_succ, Array.replicate_zero, List.push_toArray, List.append_toArray, List.nil_append, List.cons_append]
  gi_wp2_with fail
  refine ⟨trivial, (callsIn_wide.2 (clean_calls h1 hg hn)).mono ?_⟩
  rintro e w1 ⟨v1, S1, rfl, hr1, hnew1⟩
  obtain ⟨A1, c1, rfl, _⟩ := hr1.shape
  have h01 := hT _ _ _ _ h0 hnew1.ext
  have hdis0 : ∀ k ∈ S1, k ∉ So := fun k hk hk2 => by have := hnew1.fresh k hk; have := (hSo k hk2).2; omega
  have hfp0 : FpStep So W w1 So := ⟨hnew1.ext.mono (by simp), fun _ h => .inl h⟩
  have hlt0 : ∀ k ∈ So, k < w1.heap.size := fun k hk => by have := (hSo k hk).2; have := hnew1.ext.size; omega
  clear hB1
  gi_wp2
  gi_loopw [10] (fun vi wr => ∃ (i : Nat) (Sn : List Nat), vi = .int .i64 (i : Int) ∧ i ≤ g.length ∧ T (edgesTo g i) Sn wr ∧ FpStep So W wr Sn ∧
    SlR kRow 22 wr S1 (.slice A1 g.length c1) g ∧ Hid (∀ k ∈ S1, k ∉ Sn) ∧ Hid (∀ k ∈ Sn, k < wr.heap.size)) (fun vi _ => g.length - (intOf vi).toNat)
  case atStart => exact ⟨0, So, rfl, by omega, h01, hfp0, hr1, hdis0, hlt0⟩
  case round =>
    obtain ⟨i, Sn, rfl, hi, hTi, hfp, hrr, hdis, hltn⟩ := hrel
    by_cases hlt : i < g.length
    · obtain ⟨b, cap', A, c, Si, hv, hb, hc, hr, hsub⟩ := row_get hrr i hlt
      cases hv
      have hpre := Lib.hid (edgesTo_prefix g (k := i + 1) hlt)
      have hsucc := Lib.hid (edgesTo_succ g hlt)
      have hgd := hg g[i] (List.getElem_mem hlt)
      have hxl : g[i].length ≤ 1073741824 := by
        have : (keptF (g[i].map Int.ofNat) g.length).length ≤ (List.range g.length).length := List.length_filter_le _ _
        rw [kept_same hgd.1 hgd.2, List.length_range] at this; omega
      generalize g[i] = row at *
      gi_wp2
      gi_loopw [17] (fun vj wr => ∃ (j : Nat) (Sn : List Nat), vj = .int .i64 (j : Int) ∧ j ≤ row.length ∧ T (edgesTo g i ++ (row.take j).map fun b => (i, b)) Sn wr ∧ FpStep So W wr Sn ∧
        SlR kRow 22 wr S1 (.slice (some ⟨b, 0, none⟩) g.length c1) g ∧ SlR kNat 3 wr Si (.slice A row.length c) row ∧ Hid (∀ k ∈ S1, k ∉ Sn) ∧ Hid (∀ k ∈ Sn, k < wr.heap.size)) (fun vj _ => row.length - (intOf vj).toNat)
      case atStart => exact ⟨0, Sn, rfl, by omega, by simpa using hTi, hfp, hrr, hr, hdis, hltn⟩
      case round =>
        clear hTi hfp hrr hr hdis hltn hc
        obtain ⟨j, Sn, rfl, hj, hTj, hfp, hrr, hr, hdis, hltn⟩ := hrel
        by_cases hjl : j < row.length
        · obtain ⟨gb, capb, hv, hSi, hcj, hfj⟩ := hr.cell j hjl
          cases hv
          have hsn : row.take (j + 1) = row.take j ++ [row[j]] := List.take_succ_eq_append_getElem hjl
          have hpx : (edgesTo g i ++ (row.take j).map fun b => (i, b)) ++ [(i, row[j])] <+: edgesF g := by
            refine List.IsPrefix.trans ?_ hpre.out
            rw [hsucc.out, List.append_assoc]
            refine List.prefix_append_right_inj _ |>.2 ?_
            have : (row.take j).map (fun b => (i, b)) ++ [(i, row[j])] = (row.take (j + 1)).map fun b => (i, b) := by rw [hsn, List.map_append]; rfl
            rw [this]
            exact (List.take_prefix _ _).map _
          obtain ⟨fn, tmps, assign, body, hy, hR⟩ := hY _ (i, row[j]) Sn wr hTj hpx hltn.out
          simp only [encE] at hy
          have Hsn := Lib.hid hsn
          clear hsn
          generalize hx : row[j] = x at *
          have Hx := Lib.hid hx
          clear hx
          gi_wp2
          refine hR.mono ?_
          rintro e W3 ⟨S3, hfp3, hlt3, ⟨rfl, hT3⟩ | ⟨rfl, hT3⟩⟩
          · have hrr3 := hrr.ext hfp3.1 hdis.out
            have hr3 := hr.ext hfp3.1 fun k hk => hdis.out k (hsub k hk)
            have hdis3 : Hid (∀ k ∈ S1, k ∉ S3) := fun k hk hk3 => by
              rcases hfp3.2 k hk3 with h4 | h4
              · exact hdis.out k hk h4
              · have := hrr.lt k hk; omega
            have hT3' : T (edgesTo g i ++ (row.take (j + 1)).map fun b => (i, b)) S3 W3 := by
              rw [Hsn.out, List.map_append, ← List.append_assoc]
              exact hT3
            have hfp3' := hfp.trans hfp3
            clear hT3 hTj hcj
            gi_wp2
            go_roundw
            case rel => exact ⟨j + 1, S3, by go_num, by omega, hT3', hfp3', hrr3, hr3, hdis3, hlt3⟩
            case measure => simp [intOf]; omega
          · gi_wp2
            refine bodyPost_ret (results_none rfl _ _ _) rfl ?_
            exact ⟨⟨_, rfl⟩, S3, hfp.trans hfp3, .inr ⟨_, hpx, hT3⟩⟩
        · have hje : j = row.length := by omega
          subst hje
          have hTi : T (edgesTo g (i + 1)) Sn wr := by
            rw [hsucc.out]
            rwa [List.take_length] at hTj
          clear hTj
          gi_wp2
          go_roundw
          case rel => exact ⟨i + 1, Sn, by go_num, by omega, hTi, hfp, hrr, hdis, hltn⟩
          case measure => simp [intOf]; omega
    · have hie : i = g.length := by omega
      subst hie
      gi_wp2
      go_end0
      exact ⟨⟨_, rfl⟩, Sn, hfp, .inl hTi⟩

set_option maxRecDepth 20000 in
theorem edges_calls {w : World} (v : Value) (A : Option Addr) (n c : Nat) (hv : v = .slice A n c) :
    Calls Try.prog 53 #[v] w fun e w' => e = .returned (.func (.func 75) #[] #[.pointer (some ⟨w.heap.size, 0, none⟩)]) ∧ w' = w.alloc (.cells #[v] 33) := by
  subst hv
  go_enter Try.func53, Try.ntmps53
  go_wp2
  go_ret
  exact ⟨rfl, rfl⟩
end Go.Proofs.Ytkmgbejhbkbaoaa
