/- SplitPhis: for every input the call returns true, and the input reads as it did: no condition. -/
import Derived.Test.YtkmgbejhbkbaoaaBas6
import Derived.Carry
import Derived.IntWalk
import Derived.Deep.DeepCutAuto
import Derived.Deep.CutBlock
/- The document's answer for graphs: edges, the graph of a function, predecessors. -/
namespace Go.Proofs.Ytkmgbejhbkbaoaa
set_option linter.unusedSimpArgs false
set_option linter.unusedVariables false
open Go.RowKit

theorem row_at {w : World} {S : List Nat} {v : Value} {g : List (List Nat)} (h : SlR kRow 22 w S v g) (a : Nat) (ha : a < g.length) :
    ∃ g0 c0 A c Sa, v = .slice (some ⟨g0, 0, none⟩) g.length c0 ∧ w.cell? ⟨g0, a, none⟩ = some (.slice A g[a].length c) ∧ SlR kNat 3 w Sa (.slice A g[a].length c) g[a] := by
  obtain ⟨g0, c0, Si, cs, hv, hat⟩ := h.at a ha
  have hrep : kRow.rep w Si (g[a]'ha) cs := hat.rep
  obtain ⟨vr, rfl, hr⟩ := hrep
  have hc := hat.cell 0 rfl
  simp only [kRow, kSl, Nat.mul_one, Nat.add_zero] at hc
  obtain ⟨A, c, rfl, _⟩ := hr.shape
  exact ⟨g0, c0, A, c, Si, hv, hc, hr⟩
set_option maxRecDepth 20000 in
set_option maxHeartbeats 1600000 in
theorem edge_calls {w : World} {S : List Nat} {v : Value} {g : List (List Nat)} (h : SlR kRow 22 w S v g) (hn : g.length ≤ 100000) (hl : ∀ r ∈ g, r.length ≤ 100000) (a b : Nat) (ha : a < g.length) (hb : b < g.length) :
    Calls Try.prog 40 #[v, .int .i64 (a : Int), .int .i64 (b : Int)] w fun e w' => e = .returned (.bool ((g.getD a []).contains b)) ∧ w' = w := by
  obtain ⟨g0, c0, A, c, Sa, hv, hc, hr⟩ := row_at h a ha
  have hl2 := hl g[a] (List.getElem_mem ha)
  obtain ⟨row, hrow⟩ : ∃ row, row = g[a] := ⟨_, rfl⟩
  have hgd : g.getD a [] = row := by rw [hrow]; simp [List.getD_eq_getElem?_getD, ha]
  rw [← hrow] at hc hr hl2
  rw [hgd]
  obtain ⟨n, hn2⟩ : ∃ n, n = g.length := ⟨_, rfl⟩
  rw [← hn2] at ha hb hv hn
  subst hv
  have Hr := Lib.hid hr
  clear hgd hrow hn2 h hl hr
  go_enter Try.func40, Try.ntmps40
  go_wp2
  go_loopg [7] row.length (fun k vi wr => ∃ i : Nat, vi = .int .i64 (i : Int) ∧ i ≤ row.length ∧ Hid (i + k = row.length) ∧ Hid ((row.take i).contains b = false) ∧ wr = w)
  case atStart => exact ⟨0, rfl, by omega, by simp [Hid], by simp [Hid], rfl⟩
  case round =>
    obtain ⟨i, rfl, hi, HK, HT, rfl⟩ := hrel
    by_cases hlt : i < row.length
    · obtain ⟨gr, cr, hv, _, hci, _⟩ := Hr.out.cell i hlt
      cases hv
      obtain ⟨x, hx⟩ : ∃ x, x = row[i] := ⟨_, rfl⟩
      rw [← hx] at hci
      have HS : Hid ((row.take (i + 1)).contains b = (decide (b = x))) := by
        have h1 := HT.out
        rw [Hid, List.take_succ_eq_append_getElem hlt, ← hx]
        simp only [List.contains_eq_any_beq, List.any_append] at h1 ⊢
        rw [h1]
        simp only [List.any_cons, List.any_nil, Bool.or_false, Bool.false_or]
        rfl
      have HX : Hid (x ∈ row) := by rw [Hid, hx]; exact List.getElem_mem _
      clear hx
      by_cases hxb : x = b
      · subst hxb
        have HC : Hid (row.contains x = true) := by simpa [Hid] using HX.out
        go_wp2
        go_ret
        exact ⟨congrArg (fun z => Ending.returned (Value.bool z)) (decide_eq_true HX.out).symm, rfl⟩
      · have e0 : ((x : Int) == (b : Int)) = false := by simp; omega
        go_wp2
        go_roundg (gk - 1)
        case measure => have := HK.out; omega
        case rel => exact ⟨i + 1, by go_num, by omega, by have := HK.out; simp only [Hid]; omega, by rw [Hid, HS.out]; simp; omega, rfl⟩
    · have hie : i = row.length := by omega
      have HC : Hid (row.contains b = false) := by
        have := HT.out
        rwa [hie, List.take_length] at this
      clear hie
      go_wp2
      go_ret
      exact ⟨congrArg (fun z => Ending.returned (Value.bool z)) HC.out.symm, rfl⟩

/-! ### rows that grow -/
section
variable {w wo wr w1 w' : World} {So Si S' : List Nat} {v3 v5 v' : Value} {L : List (List Nat)} {l l' : List Nat}
theorem two_in (hX : Ext [] w wr) (hO : Bes w wr [] kRow 22 So v3 L) (hI : Bes wo wr So kNat 3 Si v5 l) (hw : w.heap.size ≤ wo.heap.size) (hwo : wo.heap.size ≤ wr.heap.size) (hx1 : Ext [] wr w1) (hx : Ext Si w1 w') (hs : SlR kNat 3 w' S' v' l')
    (hf : ∀ k ∈ S', k ∈ Si ∨ k = w1.heap.size ∨ k ∈ ([] : List Nat)) (hn : Si.Nodup → ([] : List Nat).Nodup → S'.Nodup) : Ext [] w w' ∧ Bes w w' [] kRow 22 So v3 L ∧ Bes wo w' So kNat 3 S' v' l' ∧ wo.heap.size ≤ w'.heap.size := by
  have h1 := hx1.size
  have h2 := hx.size
  refine ⟨(hX.nil hx1).trans hx fun k hk => .inr (by have := hI.new k hk; omega), (hO.ext0 hx1).ext hx fun k hk h => hI.off k h hk, ⟨hs, fun k hk hk2 => ?_, fun k hk => ?_, hn hI.nd (by simp)⟩, by omega⟩
  · rcases hf k hk with h | h | h
    · exact hI.off k h hk2
    · have := hO.row.lt k hk2; omega
    · cases h
  · rcases hf k hk with h | h | h
    · exact hI.new k h
    · omega
    · cases h
theorem two_out (hX : Ext [] w wr) (hO : Bes w wr [] kRow 22 So v3 L) (hI : Bes wo wr So kNat 3 Si v5 l) (hw : w.heap.size ≤ wo.heap.size) (hwo : wo.heap.size ≤ wr.heap.size) (hx1 : Ext [] wr w1) (hx : Ext So w1 w') (hs : SlR kRow 22 w' S' v' (L ++ [l]))
    (hf : ∀ k ∈ S', k ∈ So ∨ k = w1.heap.size ∨ k ∈ [Si].flatten) (hn : So.Nodup → [Si].flatten.Nodup → S'.Nodup) : Ext [] w w' ∧ Bes w w' [] kRow 22 S' v' (L ++ [l]) ∧ w.heap.size ≤ w'.heap.size := by
  have h1 := hx1.size
  have h2 := hx.size
  refine ⟨(hX.nil hx1).trans hx fun k hk => .inr (hO.new k hk), ⟨hs, by simp, fun k hk => ?_, hn hO.nd (by simpa using hI.nd)⟩, by omega⟩
  rcases hf k hk with h | h | h
  · exact hO.new k h
  · omega
  · simp at h; have := hI.new k h; omega
end
def prdsT (g : List (List Nat)) (n : Nat) : List (List Nat) := (List.range n).map fun b => (List.range g.length).filter fun a => (g.getD a []).contains b
theorem prdsT_succ (g : List (List Nat)) (n : Nat) : prdsT g (n + 1) = prdsT g n ++ [(List.range g.length).filter fun a => (g.getD a []).contains n] := by simp [prdsT, List.range_succ]
theorem filt_succ (p : Nat → Bool) (n : Nat) : (List.range (n + 1)).filter p = (List.range n).filter p ++ (if p n then [n] else []) := by
  rw [List.range_succ, List.filter_append]
  by_cases h : p n <;> simp [h, List.filter_cons]
set_option maxRecDepth 20000 in
set_option maxHeartbeats 3200000 in
theorem preds2_calls {w : World} {S : List Nat} {v : Value} {g : List (List Nat)} (h : SlR kRow 22 w S v g) (hn : g.length ≤ 100000) (hl : ∀ r ∈ g, r.length ≤ 100000) :
    Calls Try.prog 14 #[v] w fun e w' => ∃ v' S', e = .returned v' ∧ SlR kRow 22 w' S' v' (prdsT g g.length) ∧ New w w' S' := by
  obtain ⟨A, c, rfl, -⟩ := h.shape
  have H := Lib.hid h
  have HL := Lib.hid hl
  obtain ⟨n, hgn⟩ : ∃ n, n = g.length := ⟨_, rfl⟩
  have HN := Lib.hid hgn
  simp only [← hgn] at hn ⊢
  clear h hl hgn
  go_enter Try.func14, Try.ntmps14
  go_wp2
  go_loopg [3, 4] n (fun k v3 vi wr => ∃ (b : Nat) (So : List Nat), vi = .int .i64 (b : Int) ∧ b ≤ n ∧ Hid (b + k = n) ∧ Hid (Ext [] w wr) ∧ Hid (Bes w wr [] kRow 22 So v3 (prdsT g b)))
  case atStart => exact ⟨0, [], rfl, by omega, by simp [Hid], Ext.refl _ _, ⟨SlR.nil _ _ _, by simp, by simp, by simp⟩⟩
  case round =>
    obtain ⟨b, So, rfl, hb, HK, HX, HO⟩ := hrel
    obtain ⟨q1, hq1⟩ : ∃ x, x = gk := ⟨_, rfl⟩
    subst hq1
    obtain ⟨wo, hwo⟩ : ∃ x, x = wr := ⟨_, rfl⟩
    subst hwo
    by_cases hlt : b < n
    · have HI0 : Hid (Bes wo wo So kNat 3 [] (.slice none 0 0) ((List.range 0).filter fun a => (g.getD a []).contains b)) := ⟨SlR.nil _ _ _, by simp, by simp, by simp⟩
      have hw0 : Hid (w.heap.size ≤ wo.heap.size) := HX.out.size
      go_wp2
      go_loopg [5, 6] n (fun k v5 vi wx => ∃ (a : Nat) (Si : List Nat), vi = .int .i64 (a : Int) ∧ a ≤ n ∧ Hid (a + k = n) ∧ Hid (Ext [] w wx) ∧ Hid (Bes w wx [] kRow 22 So u3 (prdsT g b)) ∧ Hid (Bes wo wx So kNat 3 Si v5 ((List.range a).filter fun a => (g.getD a []).contains b)) ∧ Hid (wo.heap.size ≤ wx.heap.size))
      case atStart => exact ⟨0, [], rfl, by omega, by simp [Hid], HX, HO, HI0, Nat.le_refl _⟩
      case round =>
        clear HX HO HI0
        obtain ⟨a, Si, rfl, ha, HKa, HX, HO, HI, Hs⟩ := hrel
        obtain ⟨A5, c5, hv5, -⟩ := HI.out.row.shape
        obtain ⟨l, hl⟩ : ∃ l, l = (List.range a).filter fun a => (g.getD a []).contains b := ⟨_, rfl⟩
        rw [← hl] at hv5 HI
        subst hv5
        have HLl := Lib.hid hl
        have hll : l.length ≤ 100000 := by
          rw [hl]
          have := List.length_filter_le (fun a => (g.getD a []).contains b) (List.range a)
          rw [List.length_range] at this; omega
        have HF := Lib.hid (filt_succ (fun a => (g.getD a []).contains b) a)
        clear hl
        by_cases hlta : a < n
        · go_wp2_with fail
          refine (edge_calls (by have := H.out.ext0 HX.out; simpa only [← HN.out] using this) (by rw [← HN.out]; exact hn) HL.out a b (by rw [← HN.out]; exact hlta) (by rw [← HN.out]; exact hlt)).mono ?_
          rintro e w1 ⟨rfl, rfl⟩
          cases hc : (g.getD a []).contains b with
          | true =>
            have Hc := Lib.hid hc
            clear hc
            obtain ⟨w2, hw2⟩ : ∃ z, z = w1.alloc (.cells #[.int .i64 (a : Int)] 3) := ⟨_, rfl⟩
            have hx2 : Ext [] w1 w2 := by rw [hw2]; exact (Ext.refl _ _).alloc _
            have hsrc : Src w2 (.slice (some ⟨w1.heap.size, 0, none⟩) 1 1) 1 [.int .i64 (a : Int)] := by rw [hw2]; exact Src.one rfl
            obtain ⟨v', w3, S', hrun, hs', hxx, hf', hn'⟩ := run_append_sl (ty := 22) (d := kNat) (ys := [a]) ei_int (HI.out.row.ext0 hx2) (.slice (some ⟨w1.heap.size, 0, none⟩) 1 1) [.int .i64 (a : Int)] [[]] elems_one rfl (one_one rfl) hsrc (by simp) (le_maxLen (by omega)) (le_bytes (n := l.length) (by omega) (by decide))
            obtain ⟨p1, p2, p3, p4⟩ := two_in HX.out HO.out HI.out hw0.out Hs.out hx2 hxx hs' hf' hn'
            have P1 := Lib.hid p1
            have P2 := Lib.hid p2
            have P3 : Hid (Bes wo w3 So kNat 3 S' v' ((List.range (a + 1)).filter fun a => (g.getD a []).contains b)) := by
              rw [Hid, HF.out]; simp only [Hc.out, if_true]; rw [← HLl.out]; exact p3
            have P4 := Lib.hid p4
            subst hw2
            clear p1 p2 p3 p4 hs' hxx hf' hn' hsrc hx2 HX HO HI
            go_wp2_with (at_builtin; refine wpList_append_eq rfl (.tmp 25) (.tmp 27) 22 rfl rfl rfl hrun ?_)
            clear hrun
            go_roundg (gk - 1)
            case measure => have := HKa.out; omega
            case rel => exact ⟨a + 1, S', by go_num, by omega, by have := HKa.out; simp only [Hid]; omega, P1, P2, P3, P4⟩
          | false =>
            have HI2 : Hid (Bes wo w1 So kNat 3 Si (.slice A5 l.length c5) ((List.range (a + 1)).filter fun a => (g.getD a []).contains b)) := by
              rw [Hid, HF.out]; simp only [hc, Bool.false_eq_true, if_false, List.append_nil]; rw [← HLl.out]; exact HI.out
            clear hc HI
            go_wp2
            go_roundg (gk - 1)
            case measure => have := HKa.out; omega
            case rel => exact ⟨a + 1, Si, by go_num, by omega, by have := HKa.out; simp only [Hid]; omega, HX, HO, HI2, Hs⟩
        · obtain rfl : n = a := by omega
          obtain ⟨A3, c3, hv3, -⟩ := HO.out.row.shape
          have hpl : (prdsT g b).length = b := by simp [prdsT]
          rw [hpl] at hv3
          obtain ⟨w2, hw2⟩ : ∃ z, z = wr.alloc (.cells #[.slice A5 l.length c5] 22) := ⟨_, rfl⟩
          have hx2 : Ext [] wr w2 := by rw [hw2]; exact (Ext.refl _ _).alloc _
          have hsrc : Src w2 (.slice (some ⟨wr.heap.size, 0, none⟩) 1 1) 1 [.slice A5 l.length c5] := by rw [hw2]; exact Src.blk (cs := [.slice A5 l.length c5]) 1
          have hrep : kRow.rep w2 Si l [.slice A5 l.length c5] := ⟨_, rfl, HI.out.row.ext0 hx2⟩
          obtain ⟨v', w3, S', hrun, hs', hxx, hf', hn'⟩ := run_append_sl (ty := 33) (d := kRow) (ys := [l]) ei_rows (HO.out.row.ext0 hx2) (.slice (some ⟨wr.heap.size, 0, none⟩) 1 1) [.slice A5 l.length c5] [Si] (elems_single hrep) rfl (Kd.one kRow hrep) hsrc (by
            intro k hk hk2; simp at hk; exact HI.out.off k hk hk2) (le_maxLen (by rw [hpl]; omega)) (le_bytes (n := (prdsT g b).length) (by rw [hpl]; omega) (by decide))
          obtain ⟨p1, p2, p3⟩ := two_out HX.out HO.out HI.out hw0.out Hs.out hx2 hxx hs' hf' hn'
          have P1 := Lib.hid p1
          have P2 : Hid (Bes w w3 [] kRow 22 S' v' (prdsT g (b + 1))) := by
            rw [Hid, prdsT_succ, ← HN.out, ← HLl.out]; exact p2
          subst hw2 hv3
          clear p1 p2 p3 hs' hxx hf' hn' hsrc hrep hx2 HX HO HI hpl hlta
          go_wp2_with (at_builtin; refine wpList_append_eq rfl (.tmp 29) (.tmp 31) 33 rfl rfl rfl hrun ?_)
          clear hrun
          go_roundg (q1 - 1)
          case measure => have := HK.out; omega
          case rel => exact ⟨b + 1, S', by go_num, by omega, by have := HK.out; simp only [Hid]; omega, P1, P2⟩
    · obtain rfl : n = b := by omega
      clear hlt
      go_wp2
      go_ret
      exact ⟨_, So, rfl, HO.out.row, ⟨HX.out, HO.out.new, HO.out.nd⟩⟩
end Go.Proofs.Ytkmgbejhbkbaoaa

/- The document's graph of a function. -/
namespace Go.Proofs.Ytkmgbejhbkbaoaa
set_option linter.unusedSimpArgs false
set_option linter.unusedVariables false
open Go.RowKit

def hasI (l : List Int) (b : Nat) : Bool := l.contains (b : Int)
theorem keptF_has (row : List Int) (n : Nat) : keptF row n = (List.range n).filter fun b => hasI row b := rfl
theorem hasI_take {row : List Int} {i : Nat} (hi : i < row.length) (b : Nat) : hasI (row.take (i + 1)) b = (hasI (row.take i) b || row[i] == (b : Int)) := by
  rw [hasI, hasI, List.take_succ_eq_append_getElem hi]
  simp only [List.contains_eq_any_beq, List.any_append, List.any_cons, List.any_nil, Bool.or_false]
  congr 1
  rw [Bool.eq_iff_iff, beq_iff_eq, beq_iff_eq]
  exact eq_comm
set_option maxRecDepth 20000 in
set_option maxHeartbeats 6400000 in
theorem of2_calls {w : World} {S : List Nat} {v : Value} {f : JFunc} (h : FnR w S v f) (hn : f.blocks.length ≤ 100000) (hl : ∀ x ∈ f.blocks, x.term.to.length ≤ 100000) :
    Calls Try.prog 15 #[v] w fun e w' => ∃ v' S', e = .returned v' ∧ SlR kRow 22 w' S' v' (ofF f.blocks) ∧ New w w' S' := by
  obtain ⟨vb, rfl, hb⟩ := h
  obtain ⟨A, cap, rfl, -⟩ := hb.shape
  have H := Lib.hid hb
  have HL := Lib.hid hl
  obtain ⟨bs, hbs⟩ : ∃ bs, bs = f.blocks := ⟨_, rfl⟩
  simp only [← hbs] at H HL hn ⊢
  obtain ⟨n, hgn⟩ : ∃ n, n = bs.length := ⟨_, rfl⟩
  have HN := Lib.hid hgn
  simp only [← hgn] at hn ⊢
  have H2 : Hid (SlR kBlock 43 w S (.slice A n cap) bs) := by have := H.out; rw [← hgn] at this; exact this
  clear hb hl hbs hgn H
  go_enter Try.func15, Try.ntmps15
  have hB0 : Hid (Blk (w.alloc (.cells #[.int .i64 f.params, .slice A n cap] 26)) w.heap.size 26 #[.int .i64 f.params, .slice A n cap]) := Blk.new _ _ _
  have hX0 : Hid (Ext [] w (w.alloc (.cells #[.int .i64 f.params, .slice A n cap] 26))) := (Ext.refl _ _).alloc _
  obtain ⟨w0, hw0⟩ : ∃ z, z = w.alloc (.cells #[.int .i64 f.params, .slice A n cap] 26) := ⟨_, rfl⟩
  obtain ⟨b0, hb0⟩ : ∃ z, z = w.heap.size := ⟨_, rfl⟩
  rw [← hw0] at hB0 hX0
  rw [← hb0] at hB0
  go_wp2
  rw [← hw0, ← hb0]
  clear hw0 hb0
  go_loopg [3, 4] n (fun k v3 vi wr => ∃ (a : Nat) (So : List Nat), vi = .int .i64 (a : Int) ∧ a ≤ n ∧ Hid (a + k = n) ∧ Hid (Ext [] w0 wr) ∧ Hid (Bes w0 wr [] kRow 22 So v3 ((ofF bs).take a)))
  case atStart => exact ⟨0, [], rfl, by omega, by simp [Hid], Ext.refl _ _, ⟨SlR.nil _ _ _, by simp, by simp, by simp⟩⟩
  case round =>
    obtain ⟨a, So, rfl, ha, HK, HX, HO⟩ := hrel
    obtain ⟨q1, hq1⟩ : ∃ x, x = gk := ⟨_, rfl⟩
    subst hq1
    obtain ⟨wo, hwo⟩ : ∃ x, x = wr := ⟨_, rfl⟩
    subst hwo
    have d1 : wo.cell? ⟨b0, 1, none⟩ = some (.slice A n cap) := HX.out.cell (hB0.out.cell (i := 1) rfl) (by simp)
    by_cases hlt : a < n
    · obtain ⟨row, hrow⟩ : ∃ row, row = (bs[a]'(by rw [← HN.out]; exact hlt)).term.to := ⟨_, rfl⟩
      have Hrow := Lib.hid hrow
      have hrl : row.length ≤ 100000 := by rw [hrow]; exact HL.out _ (List.getElem_mem _)
      have HT : Hid ((ofF bs).take (a + 1) = (ofF bs).take a ++ [keptF row n]) := by
        rw [Hid, List.take_succ_eq_append_getElem (by simp [ofF, ← HN.out, hlt])]
        simp [ofF, hrow, ← HN.out]
      have HI0 : Hid (Bes wo wo So kNat 3 [] (.slice none 0 0) ((List.range 0).filter fun b => hasI row b)) := ⟨SlR.nil _ _ _, by simp, by simp, by simp⟩
      have hw0' : Hid (w0.heap.size ≤ wo.heap.size) := HX.out.size
      clear hrow
      go_wp2
      clear d1
      go_loopg [5, 6] n (fun k v5 vi wx => ∃ (b : Nat) (Si : List Nat), vi = .int .i64 (b : Int) ∧ b ≤ n ∧ Hid (b + k = n) ∧ Hid (Ext [] w0 wx) ∧ Hid (Bes w0 wx [] kRow 22 So u3 ((ofF bs).take a)) ∧ Hid (Bes wo wx So kNat 3 Si v5 ((List.range b).filter fun b => hasI row b)) ∧ Hid (wo.heap.size ≤ wx.heap.size))
      case atStart => exact ⟨0, [], rfl, by omega, by simp [Hid], HX, HO, HI0, Nat.le_refl _⟩
      case round =>
        clear HX HO HI0
        obtain ⟨b, Si, rfl, hb, HKb, HX, HO, HI, Hs⟩ := hrel
        obtain ⟨q2, hq2⟩ : ∃ x, x = gk := ⟨_, rfl⟩
        subst hq2
        have d1 : wr.cell? ⟨b0, 1, none⟩ = some (.slice A n cap) := HX.out.cell (hB0.out.cell (i := 1) rfl) (by simp)
        obtain ⟨A5, c5, hv5, -⟩ := HI.out.row.shape
        obtain ⟨l, hl⟩ : ∃ l, l = (List.range b).filter fun b => hasI row b := ⟨_, rfl⟩
        rw [← hl] at hv5 HI
        subst hv5
        have HLl := Lib.hid hl
        have hll : l.length ≤ 100000 := by
          rw [hl]
          have := List.length_filter_le (fun b => hasI row b) (List.range b)
          rw [List.length_range] at this; omega
        have HF := Lib.hid (filt_succ (fun b => hasI row b) b)
        clear hl
        by_cases hltb : b < n
        · have hbx : SlR kBlock 43 wr S (.slice A n cap) bs := (H2.out.ext0 hX0.out).ext0 HX.out
          obtain ⟨g, cap', Ap, cp, Ai, ci, Aa, ca, At, ct, Sb, Sp, Sii, Sa, St, hv, -, -, hbc, -, -, -, -, c4, -⟩ := FnR.block hbx a (by rw [← HN.out]; exact hlt)
          rw [← HN.out] at hv
          cases hv
          simp only [← Hrow.out] at c4
          have htr := hbc.t
          simp only [← Hrow.out] at htr
          have Htr := Lib.hid htr
          have hft : Hid ((false : Bool) = hasI (row.take 0) b) := by simp [Hid, hasI]
          clear hbx hbc htr
          go_wp2
          go_loopg [7, 8] row.length (fun k v7 v8 wx => ∃ (i : Nat) (th : Bool), v8 = .int .i64 (i : Int) ∧ i ≤ row.length ∧ Hid (i + k = row.length) ∧ v7 = .bool th ∧ Hid (th = hasI (row.take i) b) ∧ wx = wr)
          case atStart => exact ⟨0, false, rfl, by omega, by simp [Hid], rfl, hft, rfl⟩
          case round =>
            clear hft
            obtain ⟨i, th, rfl, hi, HKi, rfl, HTh, rfl⟩ := hrel
            by_cases hlti : i < row.length
            · obtain ⟨gt, ctt, hvt, -, hci, -⟩ := Htr.out.cell i hlti
              cases hvt
              obtain ⟨x, hx⟩ : ∃ x, x = row[i] := ⟨_, rfl⟩
              rw [← hx] at hci
              have HS : Hid (hasI (row.take (i + 1)) b = (th || x == (b : Int))) := by rw [Hid, hasI_take hlti, ← HTh.out, hx]
              clear hx
              cases th with
              | true =>
                go_wp2
                go_roundg (gk - 1)
                case measure => have := HKi.out; omega
                case rel => exact ⟨i + 1, true, by go_num, by omega, by have := HKi.out; simp only [Hid]; omega, rfl, by rw [Hid, HS.out]; rfl, rfl⟩
              | false =>
                go_wp2
                go_roundg (gk - 1)
                case measure => have := HKi.out; omega
                case rel => exact ⟨i + 1, (x == (b : Int)), by go_num, by omega, by have := HKi.out; simp only [Hid]; omega, rfl, by rw [Hid, HS.out]; simp, rfl⟩
            · have hie : i = row.length := by omega
              have HTb : Hid (th = hasI row b) := by have := HTh.out; rwa [hie, List.take_length] at this
              clear hie HTh
              cases th with
              | true =>
                obtain ⟨w2, hw2⟩ : ∃ z, z = wr.alloc (.cells #[.int .i64 (b : Int)] 3) := ⟨_, rfl⟩
                have hx2 : Ext [] wr w2 := by rw [hw2]; exact (Ext.refl _ _).alloc _
                have hsrc : Src w2 (.slice (some ⟨wr.heap.size, 0, none⟩) 1 1) 1 [.int .i64 (b : Int)] := by rw [hw2]; exact Src.one rfl
                obtain ⟨v', w3, S', hrun, hs', hxx, hf', hn'⟩ := run_append_sl (ty := 22) (d := kNat) (ys := [b]) ei_int (HI.out.row.ext0 hx2) (.slice (some ⟨wr.heap.size, 0, none⟩) 1 1) [.int .i64 (b : Int)] [[]] elems_one rfl (one_one rfl) hsrc (by simp) (le_maxLen (by omega)) (le_bytes (n := l.length) (by omega) (by decide))
                obtain ⟨p1, p2, p3, p4⟩ := two_in HX.out HO.out HI.out hw0'.out Hs.out hx2 hxx hs' hf' hn'
                have P1 := Lib.hid p1
                have P2 := Lib.hid p2
                have P3 : Hid (Bes wo w3 So kNat 3 S' v' ((List.range (b + 1)).filter fun b => hasI row b)) := by
                  rw [Hid, HF.out]; simp only [← HTb.out, if_true]; rw [← HLl.out]; exact p3
                have P4 := Lib.hid p4
                subst hw2
                clear p1 p2 p3 p4 hs' hxx hf' hn' hsrc hx2 HX HO HI
                go_wp2_with (at_builtin; refine wpList_append_eq rfl (.tmp 51) (.tmp 53) 22 rfl rfl rfl hrun ?_)
                clear hrun
                go_roundg (q2 - 1)
                case measure => have := HKb.out; omega
                case rel => exact ⟨b + 1, S', by go_num, by omega, by have := HKb.out; simp only [Hid]; omega, P1, P2, P3, P4⟩
              | false =>
                have HI2 : Hid (Bes wo wr So kNat 3 Si (.slice A5 l.length c5) ((List.range (b + 1)).filter fun b => hasI row b)) := by
                  rw [Hid, HF.out]; simp only [← HTb.out, Bool.false_eq_true, if_false, List.append_nil]; rw [← HLl.out]; exact HI.out
                clear HI
                go_wp2
                go_roundg (q2 - 1)
                case measure => have := HKb.out; omega
                case rel => exact ⟨b + 1, Si, by go_num, by omega, by have := HKb.out; simp only [Hid]; omega, HX, HO, HI2, Hs⟩
        · obtain rfl : n = b := by omega
          obtain ⟨A3, c3, hv3, -⟩ := HO.out.row.shape
          have hpl : ((ofF bs).take a).length = a := by simp [ofF, ← HN.out]; omega
          rw [hpl] at hv3
          obtain ⟨w2, hw2⟩ : ∃ z, z = wr.alloc (.cells #[.slice A5 l.length c5] 22) := ⟨_, rfl⟩
          have hx2 : Ext [] wr w2 := by rw [hw2]; exact (Ext.refl _ _).alloc _
          have hsrc : Src w2 (.slice (some ⟨wr.heap.size, 0, none⟩) 1 1) 1 [.slice A5 l.length c5] := by rw [hw2]; exact Src.blk (cs := [.slice A5 l.length c5]) 1
          have hrep : kRow.rep w2 Si l [.slice A5 l.length c5] := ⟨_, rfl, HI.out.row.ext0 hx2⟩
          obtain ⟨v', w3, S', hrun, hs', hxx, hf', hn'⟩ := run_append_sl (ty := 33) (d := kRow) (ys := [l]) ei_rows (HO.out.row.ext0 hx2) (.slice (some ⟨wr.heap.size, 0, none⟩) 1 1) [.slice A5 l.length c5] [Si] (elems_single hrep) rfl (Kd.one kRow hrep) hsrc (by
            intro k hk hk2; simp at hk; exact HI.out.off k hk hk2) (le_maxLen (by rw [hpl]; omega)) (le_bytes (n := ((ofF bs).take a).length) (by rw [hpl]; omega) (by decide))
          obtain ⟨p1, p2, p3⟩ := two_out HX.out HO.out HI.out hw0'.out Hs.out hx2 hxx hs' hf' hn'
          have P1 := Lib.hid p1
          have P2 : Hid (Bes w0 w3 [] kRow 22 S' v' ((ofF bs).take (a + 1))) := by
            rw [Hid, HT.out, keptF_has, ← HLl.out]; exact p2
          subst hw2 hv3
          clear p1 p2 p3 hs' hxx hf' hn' hsrc hrep hx2 HX HO HI hpl hltb
          go_wp2_with (at_builtin; refine wpList_append_eq rfl (.tmp 55) (.tmp 57) 33 rfl rfl rfl hrun ?_)
          clear hrun
          go_roundg (q1 - 1)
          case measure => have := HK.out; omega
          case rel => exact ⟨a + 1, S', by go_num, by omega, by have := HK.out; simp only [Hid]; omega, P1, P2⟩
    · obtain rfl : n = a := by omega
      have HO2 : Hid (Bes w0 wo [] kRow 22 So u3 (ofF bs)) := by
        have := HO.out
        rwa [List.take_of_length_le (by simp [ofF, ← HN.out])] at this
      clear hlt HO
      go_wp2
      go_ret
      exact ⟨_, So, rfl, HO2.out.row, ⟨hX0.out.nil HX.out, fun k hk => Nat.le_trans hX0.out.size (HO2.out.new k hk), HO2.out.nd⟩⟩
end Go.Proofs.Ytkmgbejhbkbaoaa

/- Plain: what the phis of a function that was split take: the same values by the same ways. -/
namespace Go.Proofs.Ytkmgbejhbkbaoaa
set_option linter.unusedSimpArgs false
set_option linter.unusedVariables false

theorem filt_one {m k : Nat} {p : Nat → Bool} (hk : k < m) (hp : ∀ a, a < m → (p a = true ↔ a = k)) : (List.range m).filter p = [k] := by
  have h2 : ((List.range m).filter p).Pairwise (· < ·) := List.Pairwise.filter _ List.pairwise_lt_range
  refine List.Perm.eq_of_pairwise (le := (· < ·)) (fun a b _ _ h1 h2 => by omega) h2 (by simp) ?_
  refine (List.perm_ext_iff_of_nodup (h2.imp fun h => by omega) (by simp)).2 fun x => ?_
  simp only [List.mem_filter, List.mem_range, List.mem_singleton]
  constructor
  · rintro ⟨h1, h2⟩; exact (hp x h1).1 h2
  · rintro rfl; exact ⟨hk, (hp _ hk).2 rfl⟩
theorem contains_ed {g : List (List Nat)} {a b : Nat} : (g.getD a []).contains b = true ↔ Ed g a b := by simp [Ed]
section
variable {bs : List JBlock}
/-- a new block has one way to it -/
theorem prds_new (hto : ∀ x ∈ bs, ∀ t ∈ x.term.to, 0 ≤ t ∧ t < (bs.length : Int)) {i : Nat} (hi : i < (critF (ofF bs)).length) :
    (prdsT (ofF (splitBs bs)) (splitBs bs).length)[bs.length + i]? = some [(critF (ofF bs))[i].1] := by
  have hl := split_len bs
  have hnd := crit_nodup (ofF_good bs)
  have hs := (Ed.lt (ofF_good bs) (crit_ed (List.getElem_mem hi))).1
  have hs2 : (critF (ofF bs))[i].1 < bs.length := by simpa [ofF] using hs
  rw [prdsT, List.getElem?_map, List.getElem?_range (by omega)]
  simp only [Option.map_some, Option.some.injEq]
  have hgl : (ofF (splitBs bs)).length = (splitBs bs).length := by simp [ofF]
  refine filt_one (by rw [hgl]; omega) fun a ha => ?_
  rw [contains_ed]
  rw [hgl] at ha
  by_cases hal : a < bs.length
  · rw [ed_lo hto hal]
    constructor
    · rintro (⟨h1, _⟩ | ⟨j, hj, hje, hc⟩)
      · omega
      · obtain rfl : i = j := by omega
        exact hc.symm
    · rintro rfl
      exact .inr ⟨i, hi, rfl, rfl⟩
  · obtain ⟨j, rfl⟩ : ∃ j, a = bs.length + j := ⟨a - bs.length, by omega⟩
    have hj : j < (critF (ofF bs)).length := by omega
    rw [ed_hi hj]
    have h3 := (Ed.lt (ofF_good bs) (crit_ed (List.getElem_mem hj))).2
    have h4 : (critF (ofF bs))[j].2 < bs.length := by simpa [ofF] using h3
    constructor <;> intro h <;> omega
def backN (n : Nat) (c : List (Nat × Nat)) (s : Int) : Nat := if s.toNat < n then s.toNat else (c.getD (s.toNat - n) (0, 0)).1
theorem back_fix {n : Nat} {c : List (Nat × Nat)} {a s : Nat} (hs : s < n) : backN n c (fixS n c a (s : Int)) = s := by
  rw [fixS_nat]
  cases h : lookC n c s a with
  | none => simp [backN, hs]
  | some k =>
    obtain ⟨i, hi, hc, rfl⟩ := lookC_mem h
    simp only [backN, Int.toNat_natCast]
    rw [if_neg (by omega), show n + i - n = i by omega, List.getD_eq_getElem?_getD, List.getElem?_eq_getElem hi]
    simp [hc]
/-- what a phi takes behind the split: of each way, from where it comes, and what -/
structure PhiL (n : Nat) (c : List (Nat × Nat)) (ins ys : List JIn) (L : List (Nat × Int)) : Prop where
  len : L.length = ys.length
  nd : (L.map (·.1)).Nodup
  each : ∀ i (hi : i < ys.length), L[i]? = some (backN n c ys[i].src, ys[i].val) ∧ ((∃ s : Nat, ys[i].src = (s : Int) ∧ s < n) ∨ ∃ j, j < c.length ∧ ys[i].src = ((n + j : Nat) : Int))
  has : ∀ y ∈ ins, ∃ s : Nat, y.src = (s : Int) ∧ (s, y.val) ∈ L
theorem phi_keys {b : Nat} (hb : b < bs.length) {p : JPhi} (hp : p.ins.map (·.src) = (prd (ofF bs) b).map Int.ofNat) :
    ∃ L, PhiL bs.length (critF (ofF bs)) p.ins (fixP bs.length (critF (ofF bs)) b p).ins L := by
  have hperm : (fixP bs.length (critF (ofF bs)) b p).ins.Perm (p.ins.map (fixIn bs.length (critF (ofF bs)) b)) := List.mergeSort_perm _ _
  have hsrc : ∀ y ∈ p.ins, ∃ s : Nat, y.src = (s : Int) ∧ s < bs.length := fun y hy => by
    have : y.src ∈ p.ins.map (·.src) := List.mem_map.2 ⟨y, hy, rfl⟩
    rw [hp] at this
    obtain ⟨s, hs, he⟩ := List.mem_map.1 this
    have h1 := (mem_prd (by simpa [ofF] using hb)).1 hs
    have h2 := (Ed.lt (ofF_good bs) h1).1
    exact ⟨s, he.symm, by simpa [ofF] using h2⟩
  have hsn : (p.ins.map fun y => y.src.toNat) = prd (ofF bs) b := by
    have : (p.ins.map (·.src)).map Int.toNat = prd (ofF bs) b := by rw [hp, List.map_map]; simp [Function.comp_def]
    rw [← this, List.map_map]; rfl
  have hLp : ((fixP bs.length (critF (ofF bs)) b p).ins.map fun y => (backN bs.length (critF (ofF bs)) y.src, y.val)).Perm (p.ins.map fun y => (y.src.toNat, y.val)) := by
    refine (hperm.map _).trans ?_
    rw [List.map_map]
    refine List.Perm.of_eq (List.map_congr_left fun y hy => ?_)
    obtain ⟨s, hs, hl⟩ := hsrc y hy
    simp only [Function.comp_def, fixIn, hs, back_fix hl, Int.toNat_natCast]
  refine ⟨(fixP bs.length (critF (ofF bs)) b p).ins.map fun y => (backN bs.length (critF (ofF bs)) y.src, y.val), by simp, ?_, fun i hi => ⟨by simp [hi], ?_⟩, fun y hy => ?_⟩
  · refine (hLp.map (·.1)).nodup_iff.2 ?_
    rw [List.map_map]
    have : (p.ins.map ((fun x : Nat × Int => x.1) ∘ fun y => (y.src.toNat, y.val))) = prd (ofF bs) b := by rw [← hsn]; rfl
    rw [this]
    exact (prd_sorted (ofF_good bs) b).imp fun h => by omega
  · have hm := hperm.mem_iff.1 (List.getElem_mem hi)
    obtain ⟨y, hy, he⟩ := List.mem_map.1 hm
    obtain ⟨s, hs, hl⟩ := hsrc y hy
    rw [← he]
    simp only [fixIn, hs]
    rw [fixS_nat]
    cases h : lookC bs.length (critF (ofF bs)) s b with
    | none => exact .inl ⟨s, rfl, hl⟩
    | some k =>
      obtain ⟨j, hj, hc, rfl⟩ := lookC_mem h
      exact .inr ⟨j, hj, rfl⟩
  · obtain ⟨s, hs, hl⟩ := hsrc y hy
    refine ⟨s, hs, hLp.mem_iff.2 (List.mem_map.2 ⟨y, hy, ?_⟩)⟩
    simp [hs]
end
end Go.Proofs.Ytkmgbejhbkbaoaa

/- SplitPhis: one phi held against what it was. -/
namespace Go.Proofs.Ytkmgbejhbkbaoaa
set_option linter.unusedSimpArgs false
set_option linter.unusedVariables false
open Go.RowKit

noncomputable def phiCode : Code := (Try.f4.body.bind (findBlock 3)).getD .skip
set_option maxRecDepth 100000 in
def frPhi (c0 c1 c3 c4 c5 c6 c7 c8 c9 c16 c17 c18 c19 c20 c21 c22 c23 c24 c25 c26 c27 c28 c29 c30 c31 c32 c33 c34 c35 c36 c37 c38 c39 c40 c41 c42 c43 c44 c45 c46 c47 c48 c49 c50 c51 c52 c53 c54 c55 c56 c57 c58 c59 c60 c61 c62 c63 c64 c65 c66 c67 c68 c69 c70 c71 c175 : Value) (u : Nat → Value) : Act := ⟨#[c0, c1, u 2, c3, c4, c5, c6, c7, c8, c9, u 10, u 11, u 12, u 13, u 14, u 15, c16, c17, c18, c19, c20, c21, c22, c23, c24, c25, c26, c27, c28, c29, c30, c31, c32, c33, c34, c35, c36, c37, c38, c39, c40, c41, c42, c43, c44, c45, c46, c47, c48, c49, c50, c51, c52, c53, c54, c55, c56, c57, c58, c59, c60, c61, c62, c63, c64, c65, c66, c67, c68, c69, c70, c71, u 72, u 73, u 74, u 75, u 76, u 77, u 78, u 79, u 80, u 81, u 82, u 83, u 84, u 85, u 86, u 87, u 88, u 89, u 90, u 91, u 92, u 93, u 94, u 95, u 96, u 97, u 98, u 99, u 100, u 101, u 102, u 103, u 104, u 105, u 106, u 107, u 108, u 109, u 110, u 111, u 112, u 113, u 114, u 115, u 116, u 117, u 118, u 119, u 120, u 121, u 122, u 123, u 124, u 125, u 126, u 127, u 128, u 129, u 130, u 131, u 132, u 133, u 134, u 135, u 136, u 137, u 138, u 139, u 140, u 141, u 142, u 143, u 144, u 145, u 146, u 147, u 148, u 149, u 150, u 151, u 152, u 153, u 154, u 155, u 156, u 157, u 158, u 159, u 160, u 161, u 162, u 163, u 164, u 165, u 166, u 167, u 168, u 169, u 170, u 171, u 172, u 173, u 174, c175], []⟩

theorem klI : KL Try.prog 3 (fun v => ∃ a, v = .int .i64 a) := KL.int Try.underlying3
theorem MapR.look1 {P : Program} {Kp : Value → Prop} {w : World} {g : Nat} {L : List (Value × Value)} {k t e : TypeId} (K : KL P k Kp) (ht : P.underlying t = some (.map k e)) (h : MapR Kp w g L) {key v : Value} (hk : Kp key) (hm : (key, v) ∈ L) (hu : ∀ v', (key, v') ∈ L → v' = v) :
    (Instr.lookup t (.map (some g)) key false).run P w = .ok v w := by
  obtain ⟨es, clock, hb, rfl, hL⟩ := h
  have hes : ∀ e ∈ es.toList, Kp e.key := fun e he => hL (e.key, e.val) (List.mem_map.2 ⟨e, he, rfl⟩)
  rcases K.find w hk es.toList hes with ⟨h1, h2⟩ | ⟨j, e0, h1, h2, h3⟩
  · obtain ⟨e, he, hke⟩ := List.mem_map.1 hm
    simp only [Prod.mk.injEq] at hke
    exact absurd hke.1 (h2 e he)
  · have := hu e0.val (List.mem_map.2 ⟨e0, List.mem_of_getElem? h2, by rw [h3]⟩)
    subst this
    simp [Instr.lookup, run_underlying ht, MapKept.run_getObj_map hb, K.check w _ hk, h1, Result.andThen]
theorem cell_ne (w : World) (a : Addr) {u : Value} (h : w.cell? a = some u) : w.heap.size ≠ a.block := Nat.ne_of_gt (World.block_lt_of_cell? w a h)
def entN (p : Nat × Int) : Value × Value := (.int .i64 (p.1 : Int), .int .i64 (p.2 + 1))
/-- a phi's cells -/
theorem phi_cells {w : World} {S : List Nat} {n cap : Nat} {A : Option Addr} {bs : List JBlock} (h : SlR kBlock 43 w S (.slice A n cap) bs) (hn : n = bs.length) {b k : Nat} (hb : b < bs.length) (hk : k < bs[b].phis.length) :
    ∃ g gp cp AI cI Si, A = some ⟨g, 0, none⟩ ∧ w.cell? ⟨g, b * 6, none⟩ = some (.slice (some ⟨gp, 0, none⟩) bs[b].phis.length cp) ∧ w.cell? ⟨gp, k * 2, none⟩ = some (.int .i64 bs[b].phis[k].dst) ∧ w.cell? ⟨gp, k * 2 + 1, none⟩ = some (.slice AI bs[b].phis[k].ins.length cI) ∧
      SlR kIn 49 w Si (.slice AI bs[b].phis[k].ins.length cI) bs[b].phis[k].ins := by
  obtain ⟨g, cap', Ap, cp, Ai, ci, Aa, ca, At, ct, Sb, Sp, Sii, Sa, St, hv, -, -, hbc, c0, -, -, -, -, -⟩ := FnR.block h b hb
  injection hv with e1 e2 e3
  obtain ⟨gp, cph, Sk, cs, hv2, hat⟩ := hbc.p.at k hk
  have hrep : kPhi.rep w Sk (bs[b].phis[k]'hk) cs := hat.rep
  obtain ⟨vI, rfl, hI⟩ := hrep
  obtain ⟨AI, cI, rfl, -⟩ := hI.shape
  have z0 := hat.cell 0 rfl
  have z1 := hat.cell 1 rfl
  simp only [kPhi, Nat.add_zero] at z0 z1
  rw [hv2] at c0
  exact ⟨g, gp, cph, AI, cI, Sk, e1, c0, z0, z1, hI⟩
/-- what a phi takes: its cells -/
theorem in_cells {w : World} {S : List Nat} {A : Option Addr} {n c : Nat} {l : List JIn} (h : SlR kIn 49 w S (.slice A n c) l) {i : Nat} (hi : i < l.length) : ∃ g, A = some ⟨g, 0, none⟩ ∧ w.cell? ⟨g, i * 2, none⟩ = some (.int .i64 l[i].src) ∧ w.cell? ⟨g, i * 2 + 1, none⟩ = some (.int .i64 l[i].val) := by
  obtain ⟨g, cap, Si, cs, hv, hat⟩ := h.at i hi
  have hrep : kIn.rep w Si (l[i]'hi) cs := hat.rep
  obtain ⟨-, rfl⟩ := hrep
  injection hv with e1 e2 e3
  have z0 := hat.cell 0 rfl
  have z1 := hat.cell 1 rfl
  simp only [kIn, Nat.add_zero] at z0 z1
  exact ⟨g, e1, z0, z1⟩
set_option maxRecDepth 100000 in
set_option maxHeartbeats 12800000 in
theorem phi_step0 {w : World} {bs : List JBlock} {n m b k b4 b5 c4 c5 c7 : Nat} {A4 A5 A7 : Option Addr} {p4 p5 : Value} {Sf Sg Sp : List Nat}
    (HB4_ : Blk w b4 26 #[p4, .slice A4 n c4]) (HB5_ : Blk w b5 26 #[p5, .slice A5 m c5]) (HF_ : SlR kBlock 43 w Sf (.slice A4 n c4) bs) (HG_ : SlR kBlock 43 w Sg (.slice A5 m c5) (splitBs bs)) (HP_ : SlR kRow 22 w Sp (.slice A7 m c7) (prdsT (ofF (splitBs bs)) m))
    (HN_ : n = bs.length) (HM_ : m = (splitBs bs).length) (hbn : b < bs.length) (hk : k < bs[b].phis.length) (hto_ : ∀ x ∈ bs, ∀ t ∈ x.term.to, 0 ≤ t ∧ t < (bs.length : Int)) (hph_ : ∀ p ∈ bs[b].phis, p.ins.map (·.src) = (prd (ofF bs) b).map Int.ofNat) (hm9 : m ≤ 1000) (hv_ : ∀ p ∈ bs[b].phis, ∀ y ∈ p.ins, -10 ≤ y.val ∧ y.val ≤ 100000)
    (c0 c1 c2 c3 c6 c10 c11 c12 c13 c14 c15 c16 c17 c18 c19 c20 c21 c22 c23 c24 c25 c26 c27 c28 c29 c30 c31 c32 c33 c34 c35 c36 c37 c38 c39 c40 c41 c42 c43 c44 c45 c46 c47 c48 c49 c50 c51 c52 c53 c54 c55 c56 c57 c58 c59 c60 c61 c62 c63 c64 c65 c66 c67 c68 c69 c70 c71 c72 c73 c74 c75 c76 c77 c78 c79 c80 c81 c82 c83 c84 c85 c86 c87 c88 c89 c90 c91 c92 c93 c94 c95 c96 c97 c98 c99 c100 c101 c102 c103 c104 c105 c106 c107 c108 c109 c110 c111 c112 c113 c114 c115 c116 c117 c118 c119 c120 c121 c122 c123 c124 c125 c126 c127 c128 c129 c130 c131 c132 c133 c134 c135 c136 c137 c138 c139 c140 c141 c142 c143 c144 c145 c146 c147 c148 c149 c150 c151 c152 c153 c154 c155 c156 c157 c158 c159 c160 c161 c162 c163 c164 c165 c166 c167 c168 c169 c170 c171 c172 c173 c174 c175 : Value) {Q : Exit → Act → World → Prop} (hexit : ∀ (a' : Act) (w' : World), a' = frPhi c0 c1 c3 (.pointer (some ⟨b4, 0, none⟩)) (.pointer (some ⟨b5, 0, none⟩)) c6 (.slice A7 m c7) (.int .i64 (b : Int)) (.int .i64 (k : Int)) c16 c17 c18 c19 c20 c21 c22 c23 c24 c25 c26 c27 c28 c29 c30 c31 c32 c33 c34 c35 c36 c37 c38 c39 c40 c41 c42 c43 c44 c45 c46 c47 c48 c49 c50 c51 c52 c53 c54 c55 c56 c57 c58 c59 c60 c61 c62 c63 c64 c65 c66 c67 c68 c69 c70 c71 c175 (fun k => a'.tmps.toList.getD k undef) → Ext [] w w' → Q .normal a' w') :
    Code.wp Try.prog phiCode Q ⟨#[c0, c1, c2, c3, .pointer (some ⟨b4, 0, none⟩), .pointer (some ⟨b5, 0, none⟩), c6, .slice A7 m c7, .int .i64 (b : Int), .int .i64 (k : Int), c10, c11, c12, c13, c14, c15, c16, c17, c18, c19, c20, c21, c22, c23, c24, c25, c26, c27, c28, c29, c30, c31, c32, c33, c34, c35, c36, c37, c38, c39, c40, c41, c42, c43, c44, c45, c46, c47, c48, c49, c50, c51, c52, c53, c54, c55, c56, c57, c58, c59, c60, c61, c62, c63, c64, c65, c66, c67, c68, c69, c70, c71, c72, c73, c74, c75, c76, c77, c78, c79, c80, c81, c82, c83, c84, c85, c86, c87, c88, c89, c90, c91, c92, c93, c94, c95, c96, c97, c98, c99, c100, c101, c102, c103, c104, c105, c106, c107, c108, c109, c110, c111, c112, c113, c114, c115, c116, c117, c118, c119, c120, c121, c122, c123, c124, c125, c126, c127, c128, c129, c130, c131, c132, c133, c134, c135, c136, c137, c138, c139, c140, c141, c142, c143, c144, c145, c146, c147, c148, c149, c150, c151, c152, c153, c154, c155, c156, c157, c158, c159, c160, c161, c162, c163, c164, c165, c166, c167, c168, c169, c170, c171, c172, c173, c174, c175], []⟩ w := by
  have Hexit := Lib.hid hexit
  have HB4 := Lib.hid HB4_
  have HB5 := Lib.hid HB5_
  have HP := Lib.hid HP_
  have HN := Lib.hid HN_
  have HM := Lib.hid HM_
  have Hto := Lib.hid hto_
  obtain ⟨g4, gp4, cp4, AI4, cI4, Si4, e4, x0, x1, x2, hI4⟩ := phi_cells HF_ HN_ hbn hk
  have hbm : b < (splitBs bs).length := by rw [split_len]; omega
  have hfx := split_lo (bs := bs) hbn
  have hkm : k < ((splitBs bs)[b]'hbm).phis.length := by rw [hfx]; simpa [fixB] using hk
  obtain ⟨g5, gp5, cp5, AI5, cI5, Si5, e5, y0, y1, y2, hI5⟩ := phi_cells HG_ HM_ hbm hkm
  obtain ⟨c, hc⟩ : ∃ c, c = critF (ofF bs) := ⟨_, rfl⟩
  obtain ⟨p, hp⟩ : ∃ p, p = bs[b].phis[k] := ⟨_, rfl⟩
  have hgp : ((splitBs bs)[b]'hbm).phis[k]'hkm = fixP bs.length c b p := by
    simp only [hfx, fixB, List.getElem_map, hc, hp]
  have hgl : ((splitBs bs)[b]'hbm).phis.length = bs[b].phis.length := by rw [hfx]; simp [fixB]
  rw [hgp] at y1 y2 hI5
  rw [hgl] at y0
  rw [← hp] at x1 x2 hI4
  obtain ⟨L, hL⟩ := phi_keys hbn (hph_ p (by rw [hp]; exact List.getElem_mem _))
  rw [← hc] at hL
  obtain ⟨ys, hys⟩ : ∃ ys, ys = (fixP bs.length c b p).ins := ⟨_, rfl⟩
  rw [← hys] at hL hI5 y2
  have hyl : ys.length = p.ins.length := by rw [hys]; simp [fixP, sortIn]
  rw [hyl] at hI5 y2
  have hdst : (fixP bs.length c b p).dst = p.dst := rfl
  rw [hdst] at y1
  have hyv : ∀ y ∈ ys, -10 ≤ y.val ∧ y.val ≤ 100000 := fun y hy => by
    rw [hys] at hy
    have h1 : y ∈ p.ins.map (fixIn bs.length c b) := (List.mergeSort_perm _ _).mem_iff.1 hy
    obtain ⟨z, hz, rfl⟩ := List.mem_map.1 h1
    exact hv_ p (by rw [hp]; exact List.getElem_mem _) z hz
  have hcl : m = bs.length + c.length := by rw [HM_, hc]; exact split_len bs
  have HX5 : Hid (∀ j (hj : j < c.length), (prdsT (ofF (splitBs bs)) m)[bs.length + j]? = some [c[j].1]) := fun j hj => by
    subst hc
    rw [HM_]; exact prds_new hto_ hj
  obtain ⟨np, hnp⟩ : ∃ np, np = bs[b].phis.length := ⟨_, rfl⟩
  obtain ⟨ni, hni⟩ : ∃ ni, ni = p.ins.length := ⟨_, rfl⟩
  obtain ⟨d, hd⟩ : ∃ d, d = p.dst := ⟨_, rfl⟩
  rw [← hnp] at x0 y0 hk
  rw [← hni] at x2 y2 hI4 hI5 hyl
  rw [← hd] at x1 y1
  subst e4 e5
  have hnil : ni ≤ 1073741824 := by
    have := hI4.len_le
    have h2 : p.ins.length ≤ bs.length := by
      have h3 := congrArg List.length (hph_ p (by rw [hp]; exact List.getElem_mem _))
      simp only [List.length_map] at h3
      have h4 := rise_len (prd_sorted (ofF_good bs) b) (n := bs.length) (fun x hx => by
        have h1 := (mem_prd (by simpa [ofF] using hbn)).1 hx
        have h2 := (Ed.lt (ofF_good bs) h1).1
        simpa [ofF] using h2)
      omega
    rw [HM_, split_len] at hm9
    omega
  have hcl' : bs.length + c.length = m := hcl.symm
  obtain ⟨bl, hbl⟩ : ∃ bl, bl = bs.length := ⟨_, rfl⟩
  rw [← hbl] at hL HX5 HN hbn hcl hcl'
  have hnb : n = bl := HN.out
  subst hnb
  have HL := Lib.hid hL
  have HI4 := Lib.hid hI4
  have HI5 := Lib.hid hI5
  have Hyl := Lib.hid hyl
  have Hni := Lib.hid hni
  have Hyv := Lib.hid hyv
  have Hcl := Lib.hid hcl'
  have Hpi : Hid (∀ y ∈ p.ins, -10 ≤ y.val ∧ y.val ≤ 100000) := hv_ p (by rw [hp]; exact List.getElem_mem _)
  have k41 : w.cell? ⟨b4, 1, none⟩ = some (.slice (some ⟨g4, 0, none⟩) n c4) := HB4.out.cell (i := 1) rfl
  have k51 : w.cell? ⟨b5, 1, none⟩ = some (.slice (some ⟨g5, 0, none⟩) m c5) := HB5.out.cell (i := 1) rfl
  have hbm2 : b < m := by omega
  clear hexit HB4_ HB5_ HF_ HG_ HP_ HN_ HM_ hto_ hph_ hv_ hL hI4 hI5 hyl hni hyv hcl hcl' hbl hd hnp hys hc hp hgp hgl hdst hfx hkm hbm
  have hmm := @run_makeMap Try.prog
  conv => arg 2; whnf
  go_upto_region 16 with (fail)
  obtain ⟨wa, hwa⟩ : ∃ z, z = w.alloc (.cells #[.int .i64 d, .slice AI4 ni cI4] 46) := ⟨_, rfl⟩
  obtain ⟨b10, hb10⟩ : ∃ z, z = w.heap.size := ⟨_, rfl⟩
  rw [← hwa, ← hb10]
  have hxa : Ext [] w wa := by rw [hwa]; exact (Ext.refl _ _).alloc _
  have hBa : Blk wa b10 46 #[.int .i64 d, .slice AI4 ni cI4] := by rw [hwa, hb10]; exact Blk.new _ _ _
  have hsa : wa.heap.size = b10 + 1 := by rw [hwa, hb10]; simp
  have ka1 := hxa.cell k51 (by simp)
  have ka2 := hxa.cell y0 (by simp)
  have ka3 := hxa.cell y1 (by simp)
  have ka4 := hxa.cell y2 (by simp)
  have Hwa := Lib.hid hwa
  have Hsa := Lib.hid hsa
  clear hwa hsa x0 x1 x2 y0 y1 y2 k41 k51
  go_upto_region 17 with (fail)
  obtain ⟨wb, hwb⟩ : ∃ z, z = wa.alloc (.cells #[.int .i64 d, .slice AI5 ni cI5] 46) := ⟨_, rfl⟩
  rw [← hwb, Hsa.out]
  have hxb : Ext [] wa wb := by rw [hwb]; exact (Ext.refl _ _).alloc _
  have hB11' : Blk wb (b10 + 1) 46 #[.int .i64 d, .slice AI5 ni cI5] := by rw [hwb, ← Hsa.out]; exact Blk.new _ _ _
  have hB10' : Blk wb b10 46 #[.int .i64 d, .slice AI4 ni cI4] := hBa.ext hxb (by simp)
  have hsb : wb.heap.size = b10 + 2 := by rw [hwb]; simp [Hsa.out]
  have t0 : wb.cell? ⟨b10, 0, none⟩ = some (.int .i64 d) := hB10'.cell (i := 0) rfl
  have t1 : wb.cell? ⟨b10, 1, none⟩ = some (.slice AI4 ni cI4) := hB10'.cell (i := 1) rfl
  have t2 : wb.cell? ⟨b10 + 1, 0, none⟩ = some (.int .i64 d) := hB11'.cell (i := 0) rfl
  have t3 : wb.cell? ⟨b10 + 1, 1, none⟩ = some (.slice AI5 ni cI5) := hB11'.cell (i := 1) rfl
  obtain ⟨wm, hwm⟩ : ∃ z, z = wb.alloc (.map #[] 0) := ⟨_, rfl⟩
  have hxm : Ext [] w wm := by rw [hwm]; exact (hxa.nil hxb).alloc _
  have hB10 : Blk wm b10 46 #[.int .i64 d, .slice AI4 ni cI4] := by rw [hwm]; exact hB10'.alloc _
  have hB11 : Blk wm (b10 + 1) 46 #[.int .i64 d, .slice AI5 ni cI5] := by rw [hwm]; exact hB11'.alloc _
  have hM0 : MapR (fun v => ∃ a, v = .int .i64 a) wm (b10 + 2) ((L.take 0).map entN) := by
    have := MapR.new (Kp := fun v => ∃ a, v = .int .i64 a) wb
    rw [hsb] at this
    rw [hwm]; simpa using this
  have Hsb := Lib.hid hsb
  clear hwb hsb ka1 ka2 ka3 ka4 hB10' hB11' hBa hxa hxb
  have HXm := Lib.hid hxm
  have HB10 := Lib.hid hB10
  have HB11 := Lib.hid hB11
  have HM0 := Lib.hid hM0
  have Hb10 : Hid (b10 = w.heap.size) := hb10
  clear hb10
  clear hxm hB10 hB11 hM0
  go_upto_block 4 with (fail)
  rw [← hwm, Hsb.out]
  clear hwm hmm t0 t1 t2 t3
  go_wp2
  go_loopg [13] ni (fun r v13 wx => ∃ i : Nat, v13 = .int .i64 (i : Int) ∧ i ≤ ni ∧ Hid (i + r = ni) ∧ Hid (Ext [b10 + 2] wm wx) ∧ Hid (MapR (fun v => ∃ a, v = .int .i64 a) wx (b10 + 2) ((L.take i).map entN)))
  case atStart => exact ⟨0, rfl, by omega, by simp [Hid], Ext.refl _ _, HM0⟩
  case round =>
    clear HM0
    obtain ⟨i, rfl, hi, HK, HX, HMp⟩ := hrel
    have hb10' := Hb10.out
    have hxw : Ext [] w wr := HXm.out.trans HX.out fun x hx => .inr (by simp at hx; omega)
    have z1 : wr.cell? ⟨b10 + 1, 1, none⟩ = some (.slice AI5 ni cI5) := HX.out.cell (HB11.out.cell (i := 1) rfl) (by simp)
    have z41 : wr.cell? ⟨b4, 1, none⟩ = some (.slice (some ⟨g4, 0, none⟩) n c4) := hxw.cell (HB4.out.cell (i := 1) rfl) (by simp)
    have HXw := Lib.hid hxw
    clear hxw hb10'
    by_cases hlt : i < ni
    · skip
      -- [[one
      have hiy : i < ys.length := by rw [Hyl.out]; exact hlt
      obtain ⟨gI, eI, u0, u1⟩ := in_cells (HI5.out.ext0 HXw.out) hiy
      subst eI
      obtain ⟨hLi, hcase⟩ := HL.out.each i hiy
      have hvb := Hyv.out ys[i] (List.getElem_mem hiy)
      obtain ⟨yv, hyv⟩ : ∃ yv, yv = ys[i].val := ⟨_, rfl⟩
      obtain ⟨sr, hsr⟩ : ∃ sr, sr = ys[i].src := ⟨_, rfl⟩
      rw [← hyv, ← hsr] at hLi
      rw [← hyv] at hvb u1
      rw [← hsr] at hcase u0
      obtain ⟨kN, hkN⟩ : ∃ kN, kN = backN n c sr := ⟨_, rfl⟩
      rw [← hkN] at hLi
      have hput : Hid (∃ w', (Instr.mapUpdate 47 (.map (some (b10 + 2))) (.int .i64 (kN : Int)) (.int .i64 (yv + 1))).run Try.prog wr = .ok () w' ∧ MapR (fun v => ∃ a, v = .int .i64 a) w' (b10 + 2) ((L.take (i + 1)).map entN) ∧ Ext [b10 + 2] wr w') := by
        have hiL : i < L.length := (List.getElem?_eq_some_iff.1 hLi).1
        have hLe : L[i] = (kN, yv) := (List.getElem?_eq_some_iff.1 hLi).2
        obtain ⟨w', h1, h2, h3⟩ := HMp.out.put klI Try.underlying47 (key := .int .i64 (kN : Int)) ⟨_, rfl⟩ (by
          intro q hq he
          obtain ⟨z, hz, rfl⟩ := List.mem_map.1 hq
          simp only [entN, Value.int.injEq, true_and] at he
          obtain ⟨j, hj, hje⟩ := List.getElem_of_mem hz
          have hj2 : j < i ∧ j < L.length := by rw [List.length_take] at hj; omega
          rw [List.getElem_take] at hje
          have hnd := HL.out.nd
          have h5 : (L.map (·.1))[j]? = (L.map (·.1))[i]? := by
            simp only [List.getElem?_map, List.getElem?_eq_getElem hj2.2, List.getElem?_eq_getElem hiL, Option.map_some, hje, hLe]
            congr 1
            omega
          have := (List.getElem?_inj (by simpa using hj2.2) hnd).1 h5
          omega) (.int .i64 (yv + 1))
        refine ⟨w', h1, ?_, h3⟩
        rw [List.take_succ_eq_append_getElem hiL, List.map_append, hLe]
        exact h2
      obtain ⟨w', hrun, hmp', hx'⟩ := hput.out
      have HMp' := Lib.hid hmp'
      have HX' := Lib.hid (HX.out.same hx')
      clear hput hmp' hx' hLi hyv HMp hsr
      rcases hcase with ⟨s, rfl, hs⟩ | ⟨j, hj, rfl⟩
      · have hks : kN = s := by rw [hkN]; simp [backN, hs]
        subst hks
        clear hkN
        go_wp2
        go_roundg (gk - 1)
        case measure => have := HK.out; omega
        case rel => exact ⟨i + 1, by go_num, by omega, by have := HK.out; simp only [Hid]; omega, HX', HMp'⟩
      · obtain ⟨qn, hqn⟩ : ∃ qn, qn = n + j := ⟨_, rfl⟩
        have hks : kN = c[j].1 := by
          rw [hkN]
          simp only [backN, Int.toNat_natCast]
          rw [if_neg (by omega), show n + j - n = j by omega, List.getD_eq_getElem?_getD, List.getElem?_eq_getElem hj]; rfl
        have hnj : qn < m := by have := Hcl.out; omega
        have hnq : n ≤ qn := by omega
        rw [← hqn] at u0
        have hpl : (prdsT (ofF (splitBs bs)) m).length = m := by simp [prdsT]
        obtain ⟨g0, c0', A, c', Sa, hv7, hc7, hrow⟩ := row_at (HP.out.ext0 HXw.out) qn (by rw [hpl]; exact hnj)
        have hel : (prdsT (ofF (splitBs bs)) m)[qn]'(by rw [hpl]; exact hnj) = [c[j].1] := by
          have := HX5.out j hj
          rw [← hqn] at this
          rw [List.getElem?_eq_getElem (by rw [hpl]; exact hnj)] at this
          simpa using this
        rw [hel] at hc7 hrow
        obtain ⟨gr, cr, hvr, -, hcr, -⟩ := hrow.cell 0 (by simp)
        rw [hpl] at hv7
        cases hv7
        cases hvr
        simp only [List.getElem_cons_zero, ← hks, List.length_singleton] at hcr hc7
        have Hk := Lib.hid hks
        have Hqn := Lib.hid hqn
        clear hks hkN hrow hel hpl hqn
        go_wp2
        go_roundg (gk - 1)
        case measure => have := HK.out; omega
        case rel => exact ⟨i + 1, by go_num, by omega, by have := HK.out; simp only [Hid]; omega, HX', HMp'⟩
      -- one]]
    · obtain rfl : ni = i := by omega
      have HMf : Hid (MapR (fun v => ∃ a, v = .int .i64 a) wr (b10 + 2) (L.map entN)) := by
        have := HMp.out
        rwa [List.take_of_length_le (by rw [HL.out.len, Hyl.out]; exact Nat.le_refl _)] at this
      have z2 : wr.cell? ⟨b10, 1, none⟩ = some (.slice AI4 ni cI4) := HX.out.cell (HB10.out.cell (i := 1) rfl) (by simp)
      have Hz2 := Lib.hid z2
      clear hlt HMp z41 z2
      go_wp2
      clear z1
      go_loopg [15] ni (fun r v15 wx => ∃ i : Nat, v15 = .int .i64 (i : Int) ∧ i ≤ ni ∧ Hid (i + r = ni) ∧ Hid (Ext [] wr wx))
      case atStart => exact ⟨0, rfl, by omega, by simp [Hid], Ext.refl _ _⟩
      case round =>
        obtain ⟨i, rfl, hi2, HK2, HX2⟩ := hrel
        have z2 := HX2.out.cell Hz2.out (by simp)
        by_cases hlt : i < ni
        · have hip : i < p.ins.length := by rw [← Hni.out]; exact hlt
          obtain ⟨gI, eI, u0, u1⟩ := in_cells ((HI4.out.ext0 HXw.out).ext0 HX2.out) hip
          subst eI
          have hvb := Hpi.out p.ins[i] (List.getElem_mem hip)
          obtain ⟨s, hs, hmem⟩ := HL.out.has p.ins[i] (List.getElem_mem hip)
          obtain ⟨yv, hyv⟩ : ∃ yv, yv = p.ins[i].val := ⟨_, rfl⟩
          rw [← hyv] at u1 hvb hmem
          rw [hs] at u0
          have hlook : ∀ W : World, MapR (fun v => ∃ a, v = .int .i64 a) W (b10 + 2) (L.map entN) → (Instr.lookup 47 (.map (some (b10 + 2))) (.int .i64 (s : Int)) false).run Try.prog W = .ok (.int .i64 (yv + 1)) W := fun W hM => by
            refine hM.look1 klI Try.underlying47 ⟨_, rfl⟩ (List.mem_map.2 ⟨(s, yv), hmem, rfl⟩) fun v' hv' => ?_
            obtain ⟨z, hz, he⟩ := List.mem_map.1 hv'
            simp only [entN, Prod.mk.injEq, Value.int.injEq, true_and] at he
            obtain ⟨a1, ha1, e1⟩ := List.getElem_of_mem hz
            obtain ⟨a2, ha2, e2⟩ := List.getElem_of_mem hmem
            have hnd := HL.out.nd
            have h5 : (L.map (·.1))[a1]? = (L.map (·.1))[a2]? := by
              simp only [List.getElem?_map, List.getElem?_eq_getElem ha1, List.getElem?_eq_getElem ha2, Option.map_some, e1, e2]
              congr 1
              omega
            have h6 := (List.getElem?_inj (by simpa using ha1) hnd).1 h5
            subst h6
            rw [e1] at e2
            rw [← he.2, e2]
          have hMd : MapR (fun v => ∃ a, v = .int .i64 a) wr.drew (b10 + 2) (L.map entN) := by
            first | exact (HMf.out.ext HX2.out (by simp)).move rfl | exact HMf.out.move rfl
          have hlk := hlook wr.drew hMd
          have hC0 : wr.drew.cell? ⟨b10, 1, none⟩ = some (.slice (some ⟨gI, 0, none⟩) ni cI4) ∧ wr.drew.cell? ⟨gI, i * 2, none⟩ = some (.int .i64 (s : Int)) ∧ wr.drew.cell? ⟨gI, i * 2 + 1, none⟩ = some (.int .i64 yv) ∧ MapR (fun v => ∃ a, v = .int .i64 a) wr.drew (b10 + 2) (L.map entN) := ⟨z2, u0, u1, hMd⟩
          have Hlook := Lib.hid hlook
          clear hmem hyv hs hlook hlk hMd
          go_wp2
          have hw1 : IntKind.i64.wrap (yv + 1) = yv + 1 := IntWalk.i64_in _ (by omega)
          refine wp_region_rt (fun W => W.cell? ⟨b10, 1, none⟩ = some (.slice (some ⟨gI, 0, none⟩) ni cI4) ∧ W.cell? ⟨gI, i * 2, none⟩ = some (.int .i64 (s : Int)) ∧ W.cell? ⟨gI, i * 2 + 1, none⟩ = some (.int .i64 yv) ∧ MapR (fun v => ∃ a, v = .int .i64 a) W (b10 + 2) (L.map entN))
            (.q 0 (.q 1 (.q 2 (.q 3 (.q 4 (.q 5 (.q 6 (.q 7 (.q 8 (.q 9 (.q 10 (.q 11 (.q 12 (.q 13 (.q 14 (.q 15 .nil)))))))))))))))) (by kernel_rfl) (by kernel_rfl) hC0 ?_
          repeat (refine rt_quiet _ rfl rfl (fun W' hC => by conv => lhs; simp [go_sem, hC.1, hC.2.1, hC.2.2.1, Hlook.out W' hC.2.2.2, hlt, hw1]) ?_; simp only [put_lit, put_none, List.set_cons_succ, List.set_cons_zero])
          show Exit.then _ _ Exit.normal _ _
          clear hw1 hC0
          go_wp2
          go_roundg (gk - 1)
          case measure => have := HK2.out; omega
          case rel => exact ⟨i + 1, by go_num, by omega, by have := HK2.out; simp only [Hid]; omega, HX2.out.nil (Ext.refl _ _).drew⟩
        · go_wp2
          refine Hexit.out _ _ rfl (HXw.out.nil HX2.out)
end Go.Proofs.Ytkmgbejhbkbaoaa

/- SplitPhis, walked. -/
namespace Go.Proofs.Ytkmgbejhbkbaoaa
set_option linter.unusedSimpArgs false
set_option linter.unusedVariables false
open Go.RowKit

theorem made_mem {bs : List JBlock} {v : Int} {a : Nat} {p : Int} (h : MadeAt bs v a p) : v ∈ valsF bs := by
  obtain ⟨ha, h⟩ := h
  refine List.mem_flatMap.2 ⟨bs[a], List.getElem_mem ha, ?_⟩
  rcases h with ⟨i, hi, _, rfl⟩ | ⟨i, hi, _, hv⟩
  · exact List.mem_append_left _ (List.mem_map.2 ⟨_, List.getElem_mem hi, rfl⟩)
  · exact List.mem_append_right _ (List.mem_flatMap.2 ⟨_, List.getElem_mem hi, hv⟩)
theorem right_stand {f : JFunc} (h : RightF f) {v : Int} {b : Nat} {at_ : Int} (hs : Stand f.params f.blocks v b at_) : 0 ≤ v ∧ v ≤ 8191 := by
  have hp := h.params
  rcases hs with hs | ⟨a, p, hm, _⟩
  · omega
  · have := h.vals v (made_mem hm); omega
theorem right_phi {f : JFunc} (h : RightF f) {b : Nat} (hb : b < f.blocks.length) {p : JPhi} (hp : p ∈ f.blocks[b].phis) : ∀ y ∈ p.ins, -10 ≤ y.val ∧ y.val ≤ 100000 := fun y hy => by
  have h1 := (h.phis b hb p hp).2
  have h2 : y.src ∈ p.ins.map (·.src) := List.mem_map.2 ⟨y, hy, rfl⟩
  rw [h1] at h2
  obtain ⟨s, hs, he⟩ := List.mem_map.1 h2
  have h3 := (Ed.lt (ofF_good f.blocks) ((mem_prd (by simpa [ofF] using hb)).1 hs)).1
  have := right_stand h (h.useP b hb p hp y hy s (by simpa [ofF] using h3) he.symm)
  omega
set_option maxRecDepth 20000 in
set_option maxHeartbeats 3200000 in
theorem lawphis_calls {w : World} {v : Value} (h : NumS w v) : Calls Try.prog 4 #[v] w fun e w' => e = .returned (.bool true) ∧ Ext [] w w' := by
  have H0 := Lib.hid h
  clear h
  go_enter Try.func4, Try.ntmps4
  go_wp2_with fail
  refine (awake_calls w).mono ?_
  rintro e w1 ⟨rfl, hx1⟩
  have H1 := Lib.hid (H0.out.ext0 hx1)
  go_wp2_with fail
  refine (seed_calls H1.out).mono ?_
  rintro e w2 ⟨v2, rfl, hr2, hx2⟩
  have HX2 := Lib.hid (hx1.nil hx2)
  clear hx1 hx2 H1
  go_wp2_with fail
  refine (made_calls hr2).mono ?_
  rintro e w3 ⟨v3, S3, f, rfl, hf3, hnew3, hR, h9, hth⟩
  have HX3 := Lib.hid (HX2.out.nil hnew3.ext)
  obtain ⟨hmany, hcrit, hto⟩ := made_small hR h9 hth
  have HR := Lib.hid hR
  have Hmany := Lib.hid hmany
  have Hto := Lib.hid hto
  have Hhf3 := Lib.hid hf3
  obtain ⟨vb3, rfl, hb3⟩ := hf3
  obtain ⟨A3, c3, rfl, -⟩ := hb3.shape
  obtain ⟨n, hn⟩ : ∃ n, n = f.blocks.length := ⟨_, rfl⟩
  have Hn := Lib.hid hn
  clear hr2 HX2 hnew3 hR hmany hto hb3
  simp only [← hn] at Hhf3 ⊢
  clear hn
  have HR0 := HR.out.ne
  go_wp2_with fail
  have hx4 : Ext [] w3 (w3.alloc (.cells #[.int .i64 f.params, .slice A3 n c3] 26)) := (Ext.refl _ _).alloc _
  have hB4 : Blk (w3.alloc (.cells #[.int .i64 f.params, .slice A3 n c3] 26)) w3.heap.size 26 #[.int .i64 f.params, .slice A3 n c3] := Blk.new _ _ _
  obtain ⟨w4, hw4⟩ : ∃ z, z = w3.alloc (.cells #[.int .i64 f.params, .slice A3 n c3] 26) := ⟨_, rfl⟩
  obtain ⟨b4, hb4⟩ : ∃ z, z = w3.heap.size := ⟨_, rfl⟩
  rw [← hw4] at hx4 hB4
  rw [← hb4] at hB4
  simp only [← hw4, ← hb4]
  have HF4 := Lib.hid (Hhf3.out.ext hx4 (by simp))
  have HX4 := Lib.hid (HX3.out.nil hx4)
  clear hw4 hb4 Hhf3 HX3
  refine (splitFunc_calls HF4.out (by omega) (by omega)).mono ?_
  rintro e w5 ⟨idom0, v5, S5, hid, rfl, hf5, hnew5⟩
  rw [right_func HR.out hid] at hf5 ⊢
  simp only [splitR, Hmany.out, Bool.false_eq_true, if_false] at hf5 ⊢
  clear hid
  have Hhf5 := Lib.hid hf5
  obtain ⟨vb5, rfl, hb5⟩ := hf5
  obtain ⟨A5, c5, rfl, -⟩ := hb5.shape
  obtain ⟨m, hm⟩ : ∃ m, m = (splitF f).blocks.length := ⟨_, rfl⟩
  have hm2 : m = f.blocks.length + (critF (ofF f.blocks)).length := by rw [hm]; exact split_len _
  have hm3 : m ≤ 90 := by omega
  have hnm : n ≤ m := by rw [Hn.out]; omega
  have Hm := Lib.hid hm
  simp only [← hm] at Hhf5 ⊢
  have hx6 : Ext [] w5 (w5.alloc (.cells #[.int .i64 (splitF f).params, .slice A5 m c5] 26)) := (Ext.refl _ _).alloc _
  have hB6 : Blk (w5.alloc (.cells #[.int .i64 (splitF f).params, .slice A5 m c5] 26)) w5.heap.size 26 #[.int .i64 (splitF f).params, .slice A5 m c5] := Blk.new _ _ _
  obtain ⟨w6, hw6⟩ : ∃ z, z = w5.alloc (.cells #[.int .i64 (splitF f).params, .slice A5 m c5] 26) := ⟨_, rfl⟩
  obtain ⟨b6, hb6⟩ : ∃ z, z = w5.heap.size := ⟨_, rfl⟩
  have hx46 : Ext [] w4 w6 := by rw [hw6]; exact hnew5.ext.nil hx6
  rw [← hw6] at hx6 hB6
  rw [← hb6] at hB6
  have HF6 := Lib.hid (Hhf5.out.ext hx6 (by simp))
  have HFf6 := Lib.hid (HF4.out.ext hx46 (by simp))
  have HX6 := Lib.hid (HX4.out.nil hx46)
  have HB4 := Lib.hid (hB4.ext hx46 (by simp))
  have HB6 := Lib.hid hB6
  clear hm hm2 hb5 hnew5 hx4 hB4 hx46 hx6 hB6 HF4 HX4 Hhf5
  go_upto_region 4 with (fail)
  rw [← hw6, ← hb6]
  clear hw6 hb6
  have k41 : w6.cell? ⟨b4, 1, none⟩ = some (.slice A3 n c3) := HB4.out.cell (i := 1) rfl
  have k60 : w6.cell? ⟨b6, 0, none⟩ = some (.int .i64 (splitF f).params) := HB6.out.cell (i := 0) rfl
  have k61 : w6.cell? ⟨b6, 1, none⟩ = some (.slice A5 m c5) := HB6.out.cell (i := 1) rfl
  go_wp2_with fail
  refine (of2_calls HF6.out (by rw [← Hm.out]; omega) (fun x hx => by
    rcases List.mem_append.1 hx with hx | hx
    · obtain ⟨i, hi, rfl⟩ := List.mem_mapIdx.1 hx
      have := (termOk_to (HR.out.term _ (List.getElem_mem hi))).1
      simp only [fixB, List.length_map]; omega
    · obtain ⟨e, _, rfl⟩ := List.mem_map.1 hx
      simp [jumpB])).mono ?_
  rintro e w7 ⟨v7, S7, rfl, hg7, hnew7⟩
  have hgl : (ofF (splitF f).blocks).length = m := by rw [Hm.out]; simp [ofF]
  clear k41 k60 k61
  go_wp2_with fail
  refine (preds2_calls hg7 (by rw [hgl]; omega) (fun r hr => by
    have := rise_len ((ofF_good (splitF f).blocks) r hr).1 ((ofF_good (splitF f).blocks) r hr).2
    rw [hgl] at this; omega)).mono ?_
  rintro e w8 ⟨v8, S8, rfl, hp8, hnew8⟩
  rw [hgl] at hp8
  obtain ⟨A8, c8, hv8, -⟩ := hp8.shape
  have hpl : (prdsT (ofF (splitF f).blocks) m).length = m := by simp [prdsT]
  rw [hpl] at hv8
  subst hv8
  have hx68 := hnew7.ext.nil hnew8.ext
  have HP8 : Hid (SlR kRow 22 w8 S8 (.slice A8 m c8) (prdsT (ofF (splitBs f.blocks)) m)) := hp8
  have HF8 := Lib.hid (HF6.out.ext hx68 (by simp))
  have HFf8 := Lib.hid (HFf6.out.ext hx68 (by simp))
  have HB4 := Lib.hid (HB4.out.ext hx68 (by simp))
  have HB6 := Lib.hid (HB6.out.ext hx68 (by simp))
  have HX8 := Lib.hid (HX6.out.nil hx68)
  have Hrow4 : Hid (SlR kBlock 43 w8 S3 (.slice A3 n c3) f.blocks) := by
    obtain ⟨vb, e, h⟩ := HFf8.out
    cases e; exact h
  have Hrow6 : Hid (SlR kBlock 43 w8 S5 (.slice A5 m c5) (splitBs f.blocks)) := by
    obtain ⟨vb, e, h⟩ := HF8.out
    cases e; exact h
  clear hg7 hgl hp8 hpl hnew7 hnew8 hx68 HF6 HFf6 HX6 HF8 HFf8
  go_wp2
  go_loopg [8] n (fun r v8 wx => ∃ b : Nat, v8 = .int .i64 (b : Int) ∧ b ≤ n ∧ Hid (b + r = n) ∧ Hid (Ext [] w8 wx))
  case atStart => exact ⟨0, rfl, by omega, by simp [Hid], Ext.refl _ _⟩
  case round =>
    obtain ⟨b, rfl, hb, HK, HX⟩ := hrel
    obtain ⟨q8, hq8⟩ : ∃ x, x = gk := ⟨_, rfl⟩
    subst hq8
    have k41 : wr.cell? ⟨b4, 1, none⟩ = some (.slice A3 n c3) := HX.out.cell (HB4.out.cell (i := 1) rfl) (by simp)
    have k61 : wr.cell? ⟨b6, 1, none⟩ = some (.slice A5 m c5) := HX.out.cell (HB6.out.cell (i := 1) rfl) (by simp)
    by_cases hlt : b < n
    · have hbn : b < f.blocks.length := by rw [← Hn.out]; exact hlt
      have hbm : b < (splitBs f.blocks).length := by rw [split_len]; omega
      have hbm2 : b < m := by omega
      obtain ⟨np, hnp⟩ : ∃ np, np = f.blocks[b].phis.length := ⟨_, rfl⟩
      obtain ⟨g4, cap4, Ap4, cp4, _, _, _, _, _, _, _, _, _, _, _, hv4, -, -, hbc4, x0, -, -, -, -, -⟩ := FnR.block (Hrow4.out.ext0 HX.out) b hbn
      have hnpl := hbc4.p.len_le
      rw [← hnp] at hnpl
      simp only [maxLen] at hnpl
      clear hbc4
      obtain ⟨g6, cap6, Ap6, cp6, -, -, -, -, -, -, -, -, -, -, -, hv6, -, -, -, y0, -, -, -, -, -⟩ := FnR.block (Hrow6.out.ext0 HX.out) b hbm
      rw [split_lo hbn] at y0
      have hfl : (fixB f.blocks.length (critF (ofF f.blocks)) b f.blocks[b]).phis.length = np := by rw [hnp]; simp [fixB]
      rw [hfl] at y0
      rw [← hnp] at x0
      rw [← Hn.out] at hv4
      rw [show (splitBs f.blocks).length = m from Hm.out.symm] at hv6
      cases hv4
      cases hv6
      have Hnp := Lib.hid hnp
      have hC0 : wr.drew.cell? ⟨b4, 1, none⟩ = some (.slice (some ⟨g4, 0, none⟩) n c3) ∧ wr.drew.cell? ⟨b6, 1, none⟩ = some (.slice (some ⟨g6, 0, none⟩) m c5) ∧ wr.drew.cell? ⟨g4, b * 6, none⟩ = some (.slice Ap4 np cp4) ∧ wr.drew.cell? ⟨g6, b * 6, none⟩ = some (.slice Ap6 np cp6) := ⟨k41, k61, x0, y0⟩
      clear hfl hnp
      go_wp2
      refine wp_region_rt (fun W => W.cell? ⟨b4, 1, none⟩ = some (.slice (some ⟨g4, 0, none⟩) n c3) ∧ W.cell? ⟨b6, 1, none⟩ = some (.slice (some ⟨g6, 0, none⟩) m c5) ∧ W.cell? ⟨g4, b * 6, none⟩ = some (.slice Ap4 np cp4) ∧ W.cell? ⟨g6, b * 6, none⟩ = some (.slice Ap6 np cp6))
        (.q 0 (.q 1 (.q 2 (.q 3 (.q 4 (.q 5 (.q 6 (.q 7 (.q 8 (.q 9 (.q 10 (.q 11 (.q 12 (.q 13 (.q 14 .nil))))))))))))))) (by kernel_rfl) (by kernel_rfl) hC0 ?_
      repeat (refine rt_quiet _ rfl rfl (fun W' hC => by conv => lhs; simp [go_sem, hC.1, hC.2.1, hC.2.2.1, hC.2.2.2, hlt, hbm2]) ?_; simp only [put_lit, put_none, List.set_cons_succ, List.set_cons_zero])
      show Exit.then _ _ Exit.normal _ _
      have HX1 := Lib.hid (HX.out.nil (Ext.refl [] wr).drew)
      clear hC0 x0 y0 k41 k61 HX
      go_wp2
      go_loopg [9] np (fun r v9 wx => ∃ k : Nat, v9 = .int .i64 (k : Int) ∧ k ≤ np ∧ Hid (k + r = np) ∧ Hid (Ext [] w8 wx))
      case atStart => exact ⟨0, rfl, by omega, by simp [Hid], HX1⟩
      case round =>
        clear HX1
        obtain ⟨k, rfl, hk, HKk, HX⟩ := hrel
        by_cases hltk : k < np
        · have k41 : wr.cell? ⟨b4, 1, none⟩ = some (.slice (some ⟨g4, 0, none⟩) n c3) := HX.out.cell (HB4.out.cell (i := 1) rfl) (by simp)
          obtain ⟨g4', cap4, Ap4', cp4', -, -, -, -, -, -, -, -, -, -, -, hv4, -, -, -, x0, -, -, -, -, -⟩ := FnR.block (Hrow4.out.ext0 HX.out) b hbn
          rw [← Hn.out] at hv4
          cases hv4
          rw [← Hnp.out] at x0
          go_upto_block 3 with (fail)
          refine phi_step0 (HB4.out.ext HX.out (by simp)) (HB6.out.ext HX.out (by simp)) (Hrow4.out.ext0 HX.out) (Hrow6.out.ext0 HX.out) (HP8.out.ext0 HX.out) Hn.out Hm.out hbn (by rw [← Hnp.out]; exact hltk) Hto.out (fun p hp => (HR.out.phis b hbn p hp).2) (by omega) (fun p hp => right_phi HR.out hbn hp) _ _ _ _ _ _ _ _ _ _ _ _ _ _ _ _ _ _ _ _ _ _ _ _ _ _ _ _ _ _ _ _ _ _ _ _ _ _ _ _ _ _ _ _ _ _ _ _ _ _ _ _ _ _ _ _ _ _ _ _ _ _ _ _ _ _ _ _ _ _ _ _ _ _ _ _ _ _ _ _ _ _ _ _ _ _ _ _ _ _ _ _ _ _ _ _ _ _ _ _ _ _ _ _ _ _ _ _ _ _ _ _ _ _ _ _ _ _ _ _ _ _ _ _ _ _ _ _ _ _ _ _ _ _ _ _ _ _ _ _ _ _ _ _ _ _ _ _ _ _ _ _ _ _ _ _ _ _ _ _ _ _ _ _ _ _ _ _ _ _ _ ?_
          intro a' w' ha' hx'
          obtain ⟨u, hu⟩ : ∃ u : Nat → Value, a' = frPhi _ _ _ _ _ _ _ _ _ _ _ _ _ _ _ _ _ _ _ _ _ _ _ _ _ _ _ _ _ _ _ _ _ _ _ _ _ _ _ _ _ _ _ _ _ _ _ _ _ _ _ _ _ _ _ _ _ _ _ _ _ _ _ _ _ _ u := ⟨_, ha'⟩
          clear ha'
          subst hu
          simp only [frPhi]
          have HX' := Lib.hid (HX.out.nil hx')
          clear hx' HX k41 x0
          go_wp2
          go_roundg (gk - 1)
          case measure => have := HKk.out; omega
          case rel => exact ⟨k + 1, by go_num, by omega, by have := HKk.out; simp only [Hid]; omega, HX'⟩
        · have k41 : wr.cell? ⟨b4, 1, none⟩ = some (.slice (some ⟨g4, 0, none⟩) n c3) := HX.out.cell (HB4.out.cell (i := 1) rfl) (by simp)
          obtain ⟨g4', cap4, Ap4', cp4', -, -, -, -, -, -, -, -, -, -, -, hv4, -, -, -, x0, -, -, -, -, -⟩ := FnR.block (Hrow4.out.ext0 HX.out) b hbn
          rw [← Hn.out] at hv4
          cases hv4
          rw [← Hnp.out] at x0
          go_wp2
          go_roundg (q8 - 1)
          case measure => have := HK.out; omega
          case rel => exact ⟨b + 1, by go_num, by omega, by have := HK.out; simp only [Hid]; omega, HX⟩
    · go_wp2
      go_ret
      exact ⟨rfl, HX8.out.nil HX.out⟩
end Go.Proofs.Ytkmgbejhbkbaoaa

/- SplitPhis: for every input the call returns true, and the input reads as it did: no condition. -/
namespace Go.Proofs.Ytkmgbejhbkbaoaa
set_option linter.unusedSimpArgs false
set_option linter.unusedVariables false
open Go.ChangeShapes Go.WideShapes Go.ChangeAt Go.RowKit

set_option maxRecDepth 100000 in
theorem phis_lifted (os : Os) (started : os.Started) (H : Type) (enc : TypeId × Value → H) :
    ReturnsInHanded {} Try.checked os 4 .any (Rows.splitPhisSpec.pre6 enc Try.prog Try.f4 Rows.splitPhisRow.domain false) (Rows.splitPhisSpec.post enc Try.prog Try.f4 false true false false) := by
  refine returnsInHanded_of_change (C := Try.checked) own started (by kernel_rfl) Try.func4
    (ChangeSpec.witness6 (enc := enc) (C := Try.checked) false ⟨#[], #[.slice none 0 0], []⟩ 8 (by kernel_rfl) (by kernel_rfl) (by kernel_rfl) (by kernel_rfl)) ?_
  intro W base args ds gs before hval0 hW hcnd _
  have hval : ∀ (j : Nat) t v, Try.f4.params[j]? = some t → args[j]? = some v → Value.okWide Try.prog W .any base t v := hval0
  have hW' := hW
  obtain ⟨p, q, hA0, hV, rfl, hfz, hnd⟩ := hW
  have hA : DataW.TrodAll enc Try.prog W 0 (fun _ => true) true Try.f4.params.toList args.toList ds p := hA0
  rw [Try.params4] at hA hval
  obtain ⟨v0, d0, hargs, rfl, h0⟩ := trodAll_one hA
  obtain rfl : args = #[v0] := by cases args; simp_all
  obtain ⟨rfl, rfl⟩ := trodVars_none hV
  clear hA0 hval0
  simp only [List.append_nil] at hW'
  have hlt : ∀ x ∈ p, x.block < W.heap.size := fun x hx => by simpa using hW'.lt x hx
  refine (lawphis_calls (ints_in (okWide_slice Try.underlying22 (hval 0 22 v0 rfl rfl)) h0)).mono fun e W' ⟨he, hx⟩ => ?_
  subst he
  exact ⟨_, rfl, post_ext (pa := p) (pv := []) hx hW' (by simp) (fun _ _ _ => (trodAll_cons_mk (shut_bool Try.underlying4 _) trodAll_mk0)) (fun sp hsp => trodAll_mk1 (ints_out h0 hx hlt sp hsp)) (fun _ _ => rfl)
    (ok_one (by kernel_rfl) rfl (okWide_bool_mk Try.underlying4 _))⟩

theorem phis_over : Rows.splitPhisRow.holds Try.pinned (OpenSpec.ofChange Rows.splitPhisSpec) :=
  OpenClaim.holds_of_wide 4 Try.f4 rfl rfl rfl rfl rfl rfl rfl ⟨rfl, rfl, rfl, rfl, rfl⟩ rfl rfl rfl rfl rfl (by kernel_rfl) Try.func4 (by kernel_rfl)
    (of_decide_eq_true (by kernel_rfl)) (by unfold Func.isWrapper; first | (rw [if_pos (by decide +kernel)]; kernel_rfl) | (rw [if_neg (by decide +kernel)]; exact ⟨rfl, rfl⟩))
    (fun os started H enc _ => phis_lifted os started H enc)

theorem splitPhis_holds : Rows.SplitPhisSaid := phis_over
#print axioms splitPhis_holds
end Go.Proofs.Ytkmgbejhbkbaoaa
