/- The program's graph: kept, Of, clean. -/
import Derived.Test.YtkmgbejhbkbaoaaG1
import Derived.Test.YtkmgbejhbkbaoaaD1
import Derived.Test.YtkmgbejhbkbaoaaM1
namespace Go.Proofs.Ytkmgbejhbkbaoaa
set_option linter.unusedSimpArgs false
set_option linter.unusedVariables false
open Go.RowKit

set_option maxRecDepth 20000 in
set_option maxHeartbeats 400000 in
theorem kept_calls {w : World} {S : List Nat} {v : Value} {row : List Int} (h : SlR kInt 3 w S v row) (n : Nat) (hn : n ≤ 1073741824) (hl : row.length ≤ 1073741824) :
    Calls Try.prog 38 #[v, .int .i64 (n : Int)] w fun e w' => ∃ v' S', e = .returned v' ∧ SlR kNat 3 w' S' v' (keptF row n) ∧ New w w' S' := by
  obtain ⟨A, cap, rfl, hcap⟩ := h.shape
  go_enter Try.func38, Try.ntmps38
  go_wp2
  go_loopg [5, 10] row.length (fun k vo vi wr => ∃ (i : Nat) (So : List Nat), vi = .int .i64 (i : Int) ∧ i ≤ row.length ∧ Hid (i + k = row.length) ∧
    SlR kInt 3 wr So vo ((row.take i).filter fun b : Int => decide (0 ≤ b) && decide (b < n)) ∧ New w wr So)
  case atStart => exact ⟨0, [], rfl, by omega, by simp [Hid], by simpa using SlR.nil _ _ _, New.refl _⟩
  case round =>
    obtain ⟨i, So, rfl, hi, HK, hso, hnew⟩ := hrel
    have hfl : ((row.take i).filter fun b : Int => decide (0 ≤ b) && decide (b < n)).length ≤ 1073741824 := Nat.le_trans (List.length_filter_le _ _) (by rw [List.length_take]; omega)
    by_cases hlt : i < row.length
    · obtain ⟨g, cap', hv, hS, hc, hf⟩ := (h.ext0 hnew.ext).cell i hlt
      cases hv
      have hsn : Hid (row.take (i + 1) = row.take i ++ [row[i]]) := by rw [Hid, List.take_succ_eq_append_getElem hlt]
      generalize row[i] = x at *
      by_cases h0 : 0 ≤ x
      · by_cases h1 : x < n
        · go_wp2_with (at_builtin; refine wpList_append_sl (d := kInt) (ys := [x]) rfl (.tmp 21) (.tmp 23) 22 rfl ei_int rfl (hso.ext0 ((Ext.refl _ _).alloc _)) rfl [.int .i64 x] [[]] elems_one rfl (one_one rfl) (Src.one rfl) (by simp) (le_maxLen hfl) (le_bytes hfl (by decide)) ?_; intro v' w' S' hs' hx' hf' hn')
          go_roundg (gk - 1)
          case measure => have := HK.out; omega
          case rel =>
            refine ⟨i + 1, S', by go_num, by omega, by have := HK.out; simp only [Hid]; omega, ?_, hnew.append ((Ext.refl _ _).alloc _) hx' hf' hn'⟩
            rw [hsn.out, List.filter_append]
            simpa [h0, h1] using hs'
        · go_wp2
          go_roundg (gk - 1)
          case measure => have := HK.out; omega
          case rel =>
            refine ⟨i + 1, So, by go_num, by omega, by have := HK.out; simp only [Hid]; omega, ?_, hnew⟩
            rw [hsn.out, List.filter_append]
            simpa [h0, h1] using hso
      · go_wp2
        go_roundg (gk - 1)
        case measure => have := HK.out; omega
        case rel =>
          refine ⟨i + 1, So, by go_num, by omega, by have := HK.out; simp only [Hid]; omega, ?_, hnew⟩
          rw [hsn.out, List.filter_append]
          simpa [List.filter_cons, show ¬ (0 ≤ x ∧ x < (n : Int)) by omega] using hso
    · have hi' : Hid (i = row.length) := by simp only [Hid]; omega
      go_wp2_with fail
      refine (sort_calls hso hfl).mono ?_
      rintro e w1 ⟨rfl, h1, hx1⟩
      go_wp2_with fail
      refine (compact_calls h1 (by simpa using hfl)).mono ?_
      rintro e w2 ⟨v2, rfl, h2, hx2⟩
      go_wp2
      go_ret
      refine ⟨v2, So, rfl, ?_, (hnew.ext.trans hx1 fun k hk => .inr (hnew.fresh k hk)).trans hx2 fun k hk => .inr (hnew.fresh k hk), hnew.fresh, hnew.nodup⟩
      rw [hi'.out, List.take_length, kept_spec] at h2
      exact slr_nat_int.2 h2
end Go.Proofs.Ytkmgbejhbkbaoaa
