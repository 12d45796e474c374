/- The program's graph: clean, Dominates. -/
import Derived.Test.YtkmgbejhbkbaoaaG3
namespace Go.Proofs.Ytkmgbejhbkbaoaa
set_option linter.unusedSimpArgs false
set_option linter.unusedVariables false
open Go.RowKit

/-- a graph's rows: blocks, rising, each once -/
def Good (g : List (List Nat)) : Prop := ∀ row ∈ g, row.Pairwise (· < ·) ∧ ∀ b ∈ row, b < g.length
theorem kept_same {row : List Nat} {n : Nat} (h1 : row.Pairwise (· < ·)) (h2 : ∀ b ∈ row, b < n) : keptF (row.map Int.ofNat) n = row := by
  have h3 := keptF_sorted (row.map Int.ofNat) n
  refine List.Perm.eq_of_pairwise (le := (· < ·)) (fun a b _ _ h1 h2 => by omega) h3 h1 ?_
  refine (List.perm_ext_iff_of_nodup (h3.imp (fun h => by omega)) (h1.imp (fun h => by omega))).2 fun a => ?_
  rw [mem_keptF, List.mem_map]
  constructor
  · rintro ⟨_, b, hb, he⟩
    have : b = a := by have : (b : Int) = (a : Int) := he
                       omega
    rwa [← this]
  · intro h; exact ⟨h2 a h, a, h, rfl⟩

theorem row_get {w : World} {S : List Nat} {v : Value} {g : List (List Nat)} (h : SlR kRow 22 w S v g) (i : Nat) (hi : i < g.length) :
    ∃ b cap A c Si, v = .slice (some ⟨b, 0, none⟩) g.length cap ∧ b ∈ S ∧ w.cell? ⟨b, i, none⟩ = some (.slice A g[i].length c) ∧ SlR kNat 3 w Si (.slice A g[i].length c) g[i] ∧ ∀ k ∈ Si, k ∈ S := by
  obtain ⟨b, cap, Si, cs, hv, hat⟩ := h.at i hi
  obtain ⟨vv, hcs, hr⟩ : ∃ vv, cs = [vv] ∧ SlR kNat 3 w Si vv (g[i]'hi) := hat.rep
  obtain ⟨A, c, hvv, _⟩ := hr.shape
  rw [hvv] at hcs hr
  have := hat.cell 0 (by rw [hcs]; rfl)
  simp only [kRow, kSl, Nat.mul_one, Nat.add_zero] at this
  exact ⟨b, cap, A, c, Si, hv, hat.mem.1, this, hr, hat.mem.2⟩

set_option maxRecDepth 20000 in
set_option maxHeartbeats 400000 in
theorem clean_calls {w : World} {S : List Nat} {v : Value} {g : List (List Nat)} (h : SlR kRow 22 w S v g) (hg : Good g) (hn : g.length ≤ 1073741824) :
    Calls Try.prog 52 #[v] w fun e w' => ∃ v' S', e = .returned v' ∧ SlR kRow 22 w' S' v' g ∧ New w w' S' := by
  obtain ⟨A, cap, rfl, hcap⟩ := h.shape
  have hmk := run_make_eq Try.underlying33 Try.info22 rfl g.length g.length (by simp) hn (by decide)
  go_enter Try.func52, Try.ntmps52
  go_wp2
  clear hmk
  obtain ⟨So0, hs0, hf0, hn0⟩ := slr_made (d := kRow) (e := 22) (w := w) (zc := #[.slice none 0 0]) (x := []) g.length g.length (by simp [kRow, kSl]) hn rfl (by decide) (fun w => ⟨_, rfl, SlR.nil _ _ _⟩)
  go_loopg [11] g.length (fun k vi wr => ∃ (i : Nat) (So : List Nat), vi = .int .i64 (i : Int) ∧ i ≤ g.length ∧ Hid (i + k = g.length) ∧
    SlR kRow 22 wr So (.slice (some ⟨w.heap.size, 0, none⟩) g.length g.length) (part g [] i) ∧ New w wr So)
  case atStart =>
    refine ⟨0, So0, rfl, by omega, by simp [Hid], by rw [part_zero]; exact hs0, ⟨(Ext.refl _ _).alloc _, fun k hk => ?_, hn0⟩⟩
    have := hf0 k hk; omega
  case round =>
    obtain ⟨i, So, rfl, hi, HK, hso, hnew⟩ := hrel
    have hsz := hnew.ext.size
    by_cases hlt : i < g.length
    · obtain ⟨b, cap', A, c, Si, hv, hb, hc, hr, hsub⟩ := row_get (h.ext0 hnew.ext) i hlt
      cases hv
      have hgd := hg g[i] (List.getElem_mem hlt)
      have Hset := Lib.hid (part_set g [] hlt)
      generalize hx : g[i] = x at *
      have Hx := Lib.hid hx
      clear hx hs0 hf0
      have hxl : x.length ≤ 1073741824 := by
        have : (keptF (x.map Int.ofNat) g.length).length ≤ (List.range g.length).length := List.length_filter_le _ _
        rw [kept_same hgd.1 hgd.2, List.length_range] at this; omega
      go_wp2_with fail
      refine (kept_calls (slr_nat_int.1 hr) g.length hn (by simpa using hxl)).mono ?_
      rintro e w1 ⟨v1, S1, rfl, hr1, hnew1⟩
      rw [kept_same hgd.1 hgd.2] at hr1
      obtain ⟨A1, c1', rfl, _⟩ := hr1.shape
      have hxx : Ext [] wr w1 := hnew1.ext
      obtain ⟨g', cap', Si, cs, hv, hat⟩ := hso.at i (by rw [part_len _ _ hi]; exact hlt)
      have hlen := part_len g [] hi
      rw [hlen] at hv
      cases hv
      obtain ⟨vv, rfl, hvv⟩ := hat.rep
      have e1 := (hat.ext0 hxx).cell 0 rfl
      have e2 := (hat.ext0 hxx).frozen i
      simp only [kRow, kSl, Nat.mul_one, Nat.add_zero] at e1
      have Hlen := Lib.hid hlen
      clear hlen
      go_wp2
      go_roundg (gk - 1)
      case measure => have := HK.out; omega
      case rel =>
        obtain ⟨S', p1, p2, p3, p4⟩ := hat.put1 hnew.nodup rfl hxx (x' := x) (Sx := S1) ⟨_, rfl, hr1⟩ hnew1.fresh
        rw [Hlen.out, Hset.out] at p1
        refine ⟨i + 1, S', by go_num, by omega, by have := HK.out; simp only [Hid]; omega, p1, ⟨hnew.ext.trans p4 fun k hk => .inr (hnew.fresh k hk), fun k hk => ?_, p3 hnew1.nodup⟩⟩
        rcases p2 k hk with h3 | h3
        · exact hnew.fresh k h3
        · omega
    · have hi' : i = g.length := by omega
      subst hi'
      go_wp2
      go_ret
      refine ⟨_, So, rfl, ?_, hnew⟩
      rw [part_all] at hso
      exact hso

/-! ### Dominates: one by one -/
def chainF (idom : List Int) (a : Int) : Nat → Int → Bool
  | 0, _ => false
  | k + 1, b => if a = b then true else if 0 ≤ b ∧ b < idom.length then chainF idom a k (idom.getD b.toNat 0) else false
/-- P2.3 -/
def domF (idom : List Int) (a b : Int) : Bool := if (0 ≤ a ∧ a < idom.length) ∧ (0 ≤ b ∧ b < idom.length) then chainF idom a (idom.length + 1) b else false

set_option maxRecDepth 20000 in
set_option maxHeartbeats 400000 in
theorem dom1_calls {w : World} {p : Addr} {A : Option Addr} {n cap : Nat} (x : Int) (hc : w.cell? p = some (.slice A n cap)) :
    Calls Try.prog 39 #[.int .i64 x, .pointer (some p)] w fun e w' => e = .returned (.bool (decide (0 ≤ x ∧ x < n))) ∧ w' = w := by
  by_cases h0 : 0 ≤ x
  · go_enter Try.func39, Try.ntmps39
    go_wp2
    go_ret
    exact ⟨by simp [h0], rfl⟩
  · have hd : decide (0 ≤ x) = false := by simpa using h0
    go_enter Try.func39, Try.ntmps39
    go_wp2
    go_ret
    exact ⟨by simp [h0], rfl⟩

set_option maxRecDepth 20000 in
set_option maxHeartbeats 400000 in
theorem dominates_calls {w : World} {S : List Nat} {v : Value} {idom : List Int} (h : SlR kInt 3 w S v idom) (hn : idom.length ≤ 1073741824) (a b : Int) :
    Calls Try.prog 13 #[v, .int .i64 a, .int .i64 b] w fun e w' => e = .returned (.bool (domF idom a b)) ∧ Ext [] w w' := by
  obtain ⟨A, cap, rfl, hcap⟩ := h.shape
  go_enter Try.func13, Try.ntmps13
  go_wp2_with fail
  refine (dom1_calls a ((Blk.new w #[.slice A idom.length cap] 22).cell rfl)).mono ?_
  rintro e w1 ⟨rfl, rfl⟩
  by_cases ha : 0 ≤ a ∧ a < idom.length
  · have hda : decide (0 ≤ a ∧ a < (idom.length : Int)) = true := by simpa using ha
    rw [hda]
    go_wp2_with fail
    refine (dom1_calls b ((Blk.new w #[.slice A idom.length cap] 22).cell rfl)).mono ?_
    rintro e w1 ⟨rfl, rfl⟩
    by_cases hb : 0 ≤ b ∧ b < idom.length
    · have hdb : decide (0 ≤ b ∧ b < (idom.length : Int)) = true := by simpa using hb
      have hfin : Hid (domF idom a b = chainF idom a (idom.length + 1) b) := by rw [Hid, domF, if_pos ⟨ha, hb⟩]
      rw [hdb]
      go_wp2_with fail
      go_loopg [2, 22] (idom.length + 1) (fun k vb vi wr => ∃ (i : Nat) (b' : Int), vi = .int .i64 (i : Int) ∧ Hid (i + k = idom.length + 1) ∧ vb = .int .i64 b' ∧ Hid (domF idom a b = chainF idom a k b') ∧ wr = w.alloc (.cells #[.slice A idom.length cap] 22))
      case atStart => exact ⟨0, b, rfl, by simp [Hid], rfl, hfin, rfl⟩
      case round =>
        obtain ⟨i, b', rfl, HK, rfl, Hd, rfl⟩ := hrel
        clear hfin
        cases gk with
        | zero =>
          have hlt : ¬ i < idom.length + 1 := by have := HK.out; omega
          go_wp2
          go_ret
          refine ⟨by rw [Hd.out]; rfl, (Ext.refl _ _).alloc _⟩
        | succ k =>
          have hlt : i < idom.length + 1 := by have := HK.out; omega
          by_cases he : a = b'
          · have hr : Hid (domF idom a b = true) := by rw [Hid, Hd.out, chainF, if_pos he]
            have he' : (a == b') = true := by simpa using he
            clear Hd
            go_wp2
            go_ret
            exact ⟨by rw [hr.out]; rfl, (Ext.refl _ _).alloc _⟩
          · have he' : (a == b') = false := by simpa using he
            go_wp2_with fail
            refine (dom1_calls b' ((Blk.new w #[.slice A idom.length cap] 22).cell rfl)).mono ?_
            rintro e w1 ⟨rfl, rfl⟩
            by_cases hb' : 0 ≤ b' ∧ b' < idom.length
            · have hdb' : decide (0 ≤ b' ∧ b' < (idom.length : Int)) = true := by simpa using hb'
              obtain ⟨g, cap', hv, hS, hc, hf⟩ := h.cell b'.toNat (by omega)
              cases hv
              have hr : Hid (domF idom a b = chainF idom a k (idom.getD b'.toNat 0)) := by rw [Hid, Hd.out, chainF, if_neg he, if_pos hb']
              have hgd : idom.getD b'.toNat 0 = idom[b'.toNat]'(by omega) := by simp [List.getD, show b'.toNat < idom.length by omega]
              rw [hgd] at hr
              have hx : w.cell? ⟨g, b'.toNat, none⟩ = _ := hc
              have hgl : g < w.heap.size := h.lt g (by rw [hS]; simp)
              rw [hdb']
              clear Hd hgd hc
              go_wp2
              go_roundg k
              case measure => omega
              case rel => exact ⟨i + 1, _, by go_num, by have := HK.out; simp only [Hid]; omega, rfl, hr, rfl⟩
            · have hdb' : decide (0 ≤ b' ∧ b' < (idom.length : Int)) = false := by simpa using hb'
              have hr : Hid (domF idom a b = false) := by rw [Hid, Hd.out, chainF, if_neg he, if_neg hb']
              rw [hdb']
              clear Hd
              go_wp2
              go_ret
              exact ⟨by rw [hr.out]; rfl, (Ext.refl _ _).alloc _⟩
    · have hdb : decide (0 ≤ b ∧ b < (idom.length : Int)) = false := by simpa using hb
      have hfin : Hid (domF idom a b = false) := by rw [Hid, domF, if_neg (fun h => hb h.2)]
      rw [hdb]
      go_wp2
      go_ret
      exact ⟨by rw [hfin.out]; rfl, (Ext.refl _ _).alloc _⟩
  · have hda : decide (0 ≤ a ∧ a < (idom.length : Int)) = false := by simpa using ha
    have hfin : Hid (domF idom a b = false) := by rw [Hid, domF, if_neg (fun h => ha h.1)]
    rw [hda]
    go_wp2
    go_ret
    exact ⟨by rw [hfin.out]; rfl, (Ext.refl _ _).alloc _⟩
end Go.Proofs.Ytkmgbejhbkbaoaa
