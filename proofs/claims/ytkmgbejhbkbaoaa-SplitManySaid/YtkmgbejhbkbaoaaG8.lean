/- The program's graph: Order. -/
import Derived.Test.YtkmgbejhbkbaoaaG4
import Derived.Test.YtkmgbejhbkbaoaaM2
import Derived.Test.YtkmgbejhbkbaoaaL4
import Derived.Laws.EntriesVeiled
namespace Go.Proofs.Ytkmgbejhbkbaoaa
set_option linter.unusedSimpArgs false
set_option linter.unusedVariables false
open Go.RowKit

/-- what lies in memory while blocks are gone over: from block m on: rows, what is there, the row of what was left, the function itself -/
structure DSt (w : World) (m : Nat) (Sr So : List Nat) (A : Option Addr) (c : Nat) (g : List (List Nat)) (st : DS) (vo : Value) : Prop where
  rb : Blk w m 33 #[.slice A g.length c]
  tb : Blk w (m + 2) 63 #[.slice (some ⟨m + 1, 0, none⟩) g.length g.length]
  ob : Blk w (m + 3) 22 #[vo]
  fb : Blk w (m + 4) 67 #[.func (.func 64) #[] #[.pointer (some ⟨m + 2, 0, none⟩), .pointer (some ⟨m, 0, none⟩), .pointer (some ⟨m + 4, 0, none⟩), .pointer (some ⟨m + 3, 0, none⟩)]]
  out : SlR kNat 3 w So vo st.2
  th : SlR kBool 4 w [m + 1] (.slice (some ⟨m + 1, 0, none⟩) g.length g.length) st.1
  rows : SlR kRow 22 w Sr (.slice A g.length c) g
  hr : ∀ k ∈ Sr, k < m
  ho : ∀ k ∈ So, m + 4 < k
  nd : So.Nodup
  len : st.1.length = g.length
  cnt : st.2.length ≤ st.1.count true
theorem DSt.lt {w : World} {m : Nat} {Sr So : List Nat} {A : Option Addr} {c : Nat} {g : List (List Nat)} {st : DS} {vo : Value} (h : DSt w m Sr So A c g st vo) : m + 4 < w.heap.size := h.fb.lt
theorem DSt.small {w : World} {m : Nat} {Sr So : List Nat} {A : Option Addr} {c : Nat} {g : List (List Nat)} {st : DS} {vo : Value} (h : DSt w m Sr So A c g st vo) : st.2.length ≤ g.length := by
  have := h.cnt; have := List.count_le_length (a := true) (l := st.1); have := h.len; omega

theorem Try.info4 : (Try.prog.info? 4).map (fun i => (i.zero, i.size, i.bytes)) = some (some (.bool false), 1, 1) := by kernel_rfl

set_option maxRecDepth 20000 in
set_option maxHeartbeats 800000 in
theorem over_calls {g : List (List Nat)} (hg : Good g) (hn : g.length ≤ 1073741823) {m : Nat} {Sr : List Nat} {A : Option Addr} {c : Nat} : ∀ (k : Nat) (a : Nat) (st : DS) (So : List Nat) (vo : Value) (w : World),
    DSt w m Sr So A c g st vo → a < g.length → st.1.getD a false = false → st.1.count false ≤ k →
    Calls Try.prog 64 #[.int .i64 (a : Int), .pointer (some ⟨m + 2, 0, none⟩), .pointer (some ⟨m, 0, none⟩), .pointer (some ⟨m + 4, 0, none⟩), .pointer (some ⟨m + 3, 0, none⟩)] w
      fun e w' => ∃ So' vo', e = .returned (.tuple #[]) ∧ DSt w' m Sr So' A c g (dfs g k st a) vo' ∧ FpStep ((m + 1) :: (m + 3) :: So) w w' ((m + 1) :: (m + 3) :: So') := by
  intro k
  induction k with
  | zero =>
    intro a st So vo w h ha hf hc
    have hl := h.len
    have h1 : st.1[a]'(by omega) = false := by simpa [List.getD, show a < st.1.length by omega] using hf
    have h2 : 0 < st.1.count false := List.count_pos_iff.2 (h1 ▸ List.getElem_mem (by omega))
    omega
  | succ k ih =>
    intro a st So vo w h ha hf hc
    have hl := h.len
    have hal : a < st.1.length := by omega
    have hfa : st.1[a] = false := by simpa [List.getD, hal] using hf
    obtain ⟨c1, c2⟩ := count_set_true hal hfa
    have hrows : ∀ row ∈ g, ∀ b ∈ row, b < g.length := fun row hr b hb => (hg row hr).2 b hb
    have d1 := h.tb.cell (i := 0) rfl
    have d2 := h.rb.cell (i := 0) rfl
    obtain ⟨_, _, hv, _, d3, f3⟩ := h.th.cell a hal
    rw [hl] at hv
    cases hv
    have hlt := h.lt
    have hth := h.th.set a hal true
    -- the world behind the first store
    obtain ⟨w1, hw1⟩ : ∃ w1, w1 = w.setCell ⟨m + 1, a, none⟩ (.bool true) := ⟨_, rfl⟩
    have hx1 : Ext [m + 1] w w1 := by rw [hw1]; exact (Ext.refl _ _).setCell (.inl (by simp)) _
    have hfp0 : FpStep ((m + 1) :: (m + 3) :: So) w w1 ((m + 1) :: (m + 3) :: So) := ⟨hx1.mono (by simp), fun _ h => .inl h⟩
    have h1 : DSt w1 m Sr So A c g (st.1.set a true, st.2) vo := by
      refine ⟨h.rb.ext hx1 (by simp), h.tb.ext hx1 (by simp), h.ob.ext hx1 (by simp), h.fb.ext hx1 (by simp), h.out.ext hx1 (fun k hk => by have := h.ho k hk; simp; omega), by rw [hw1]; exact hth,
        h.rows.ext hx1 (fun k hk => by have := h.hr k hk; simp; omega), h.hr, h.ho, h.nd, by rw [List.length_set]; exact hl, by have := h.cnt; simp only; omega⟩
    obtain ⟨gr, k1, Ar, cr, Si, hv, hgr, e1, hrow0, hsub⟩ := row_get h.rows a ha
    cases hv
    have hgrm := h.hr gr hgr
    have hrow := hrow0.ext hx1 (fun k hk => by have := h.hr k (hsub k hk); simp; omega)
    have hgd := hg g[a] (List.getElem_mem ha)
    have hrl : g[a].length ≤ 1073741824 := by
      have : (keptF (g[a].map Int.ofNat) g.length).length ≤ (List.range g.length).length := List.length_filter_le _ _
      rw [kept_same hgd.1 hgd.2, List.length_range] at this; omega
    have hds : Hid (dfs g (k + 1) st a = ((dfsRow g k (st.1.set a true, st.2) g[a]).1, (dfsRow g k (st.1.set a true, st.2) g[a]).2 ++ [a])) := by
      rw [Hid, dfs_succ]; simp [List.getD, ha]
    have hrlt : Hid (∀ b ∈ g[a], b < g.length) := hgd.2
    have hSim : Hid (∀ k ∈ Si, k < m) := fun k hk => h.hr k (hsub k hk)
    generalize g[a] = row at *
    have hcnt1 : Hid ((st.1.set a true).count false ≤ k) := by have := c1; simp only [Hid]; omega
    have hct1 : Hid (st.2.length + 1 ≤ (st.1.set a true).count true) := by have := h.cnt; simp only [Hid]; omega
    have Hih := Lib.hid ih
    have Hl := Lib.hid hl
    have Hrows := Lib.hid hrows
    clear ih hl c1 c2 hf hc hfa hrow0 hth hrows hgd
    go_enter Try.func64, Try.ntmps64
    go_wp2
    rw [← hw1]
    have Hw1 := Lib.hid hw1
    clear hw1 d1 d2 d3 f3 e1
    go_loopg [16] row.length (fun q vi wr => ∃ (i : Nat) (Sn : List Nat) (vn : Value), vi = .int .i64 (i : Int) ∧ i ≤ row.length ∧ Hid (i + q = row.length) ∧ DSt wr m Sr Sn (some ⟨gr, 0, none⟩) c g (dfsRow g k (st.1.set a true, st.2) (row.take i)) vn ∧
      FpStep ((m + 1) :: (m + 3) :: So) w1 wr ((m + 1) :: (m + 3) :: Sn) ∧ SlR kNat 3 wr Si (.slice Ar row.length cr) row)
    case atStart => exact ⟨0, So, vo, rfl, by omega, by simp [Hid], by simpa [dfsRow] using h1, FpStep.refl _ _, hrow⟩
    case round =>
      obtain ⟨i, Sn, vn, rfl, hi, HK, hd, hfp, hr⟩ := hrel
      by_cases hlt2 : i < row.length
      · obtain ⟨gb, capb, hv, hSi, hcj, hfj⟩ := hr.cell i hlt2
        cases hv
        have hsn := dfsRow_snoc g k (st.1.set a true, st.2) (row.take i) row[i]
        rw [← List.take_succ_eq_append_getElem hlt2] at hsn
        have Hsn := Lib.hid hsn
        clear hsn
        have hxlt : row[i] < g.length := hrlt.out _ (List.getElem_mem hlt2)
        generalize row[i] = x at *
        have hxl : x < (dfsRow g k (st.1.set a true, st.2) (row.take i)).1.length := by rw [hd.len]; exact hxlt
        have hcnt : Hid ((dfsRow g k (st.1.set a true, st.2) (row.take i)).1.count false ≤ k) := by
          have := dfsRow_keep g k (row.take i) (st.1.set a true, st.2) (fun b hb => by rw [List.length_set]; rw [Hl.out]; exact hrlt.out b (List.mem_of_mem_take hb)) (fun r hr b hb => by rw [List.length_set, Hl.out]; exact Hrows.out r hr b hb)
          exact Nat.le_trans this.cnt hcnt1.out
        generalize hst : dfsRow g k (st.1.set a true, st.2) (row.take i) = sn at *
        have Hst := Lib.hid hst
        clear hst
        obtain ⟨_, _, hv, _, d3, f3⟩ := hd.th.cell x hxl
        rw [hd.len] at hv
        cases hv
        have d1 := hd.tb.cell (i := 0) rfl
        have d4 := hd.fb.cell (i := 0) rfl
        have hdlt := hd.lt
        cases hbx : sn.1[x] with
        | true =>
          have Hb : Hid (dfsRow g k (st.1.set a true, st.2) (row.take (i + 1)) = sn) := by
            rw [Hid, Hsn.out, if_pos (by simpa [List.getD, hxl] using hbx)]
          rw [hbx] at d3
          clear hbx
          go_wp2
          go_roundg (gk - 1)
          case measure => have := HK.out; omega
          case rel => exact ⟨i + 1, Sn, vn, by go_num, by omega, by have := HK.out; simp only [Hid]; omega, by rw [Hb.out]; exact hd, hfp, hr⟩
        | false =>
          have Hb : Hid (dfsRow g k (st.1.set a true, st.2) (row.take (i + 1)) = dfs g k sn x) := by
            rw [Hid, Hsn.out, if_neg (by simpa [List.getD, hxl] using hbx)]
          have hbf : sn.1.getD x false = false := by simpa [List.getD, hxl] using hbx
          rw [hbx] at d3
          have Hbf := Lib.hid hbf
          clear hbx hbf
          go_wp2_with fail
          refine (Hih.out x sn Sn vn wr hd hxlt Hbf.out hcnt.out).mono ?_
          rintro e w2 ⟨S2, vo2, rfl, hd2, hfp2⟩
          go_wp2
          go_roundg (gk - 1)
          case measure => have := HK.out; omega
          case rel =>
            refine ⟨i + 1, S2, vo2, by go_num, by omega, by have := HK.out; simp only [Hid]; omega, by rw [Hb.out]; exact hd2, hfp.trans hfp2, hr.ext hfp2.1 fun k hk h => ?_⟩
            have := hSim.out k hk
            simp at h
            rcases h with h | h | h
            · omega
            · omega
            · have := hd.ho k h; omega
      · have hie : i = row.length := by omega
        subst hie
        rw [List.take_length] at hd
        have hcs : Hid ((dfsRow g k (st.1.set a true, st.2) row).2.length + 1 ≤ (dfsRow g k (st.1.set a true, st.2) row).1.count true) := by
          have := (dfsRow_keep g k row (st.1.set a true, st.2) (fun b hb => by rw [List.length_set]; rw [Hl.out]; exact hrlt.out b hb) (fun r hr b hb => by rw [List.length_set, Hl.out]; exact Hrows.out r hr b hb)).out
          have h2 := hct1.out
          simp only [Hid] at *
          omega
        generalize hst : dfsRow g k (st.1.set a true, st.2) row = sn at *
        have Hst := Lib.hid hst
        clear hst
        have d4 := hd.ob.cell (i := 0) rfl
        have f4 := hd.ob.frozen 0
        have hdlt := hd.lt
        obtain ⟨An, cn, rfl, _⟩ := hd.out.shape
        have hsm : sn.2.length ≤ 1073741824 := by have := hd.small; omega
        go_wp2_with (at_builtin; refine wpList_append_sl (d := kNat) (ys := [a]) rfl (.tmp 29) (.tmp 31) 22 rfl ei_int rfl (hd.out.ext0 ((Ext.refl _ _).alloc _)) rfl [.int .i64 (a : Int)] [[]] elems_one rfl (one_one rfl) (Src.one rfl) (by simp) (le_maxLen hsm) (le_bytes hsm (by decide)) ?_; intro v' w' S' hs' hx' hf' hn'; obtain ⟨A', c', rfl, _⟩ := hs'.shape; simp only [List.length_append, List.length_cons, List.length_nil, Nat.zero_add] at hs'; have hxx : Ext Sn wr w' := (((Ext.refl [] wr).alloc _).mono (by simp)).same hx'; have b4' := hd.ob.ext hxx (fun hk => by have := hd.ho _ hk; omega); have d5 := b4'.cell (i := 0) rfl; have f5 := b4'.frozen 0)
        go_end0
        have hSn : ∀ k ∈ S', k ∈ Sn ∨ wr.heap.size ≤ k := fun k hk => by
          rcases hf' k hk with h5 | h5 | h5
          · exact .inl h5
          · simp at h5; exact .inr (by omega)
          · simp at h5
        have hSm : ∀ k ∈ S', m + 4 < k := fun k hk => by
          rcases hSn k hk with h5 | h5
          · exact hd.ho k h5
          · omega
        have hxs : Ext ((m + 3) :: Sn) wr (w'.setCell ⟨m + 3, 0, none⟩ (.slice A' (sn.2.length + 1) c')) := (hxx.mono fun k hk => .inl (List.mem_cons_of_mem _ hk)).setCell (.inl (by simp)) _
        have hdis : ∀ j, j ≤ m + 4 → j ≠ m + 3 → j ∉ (m + 3) :: Sn := fun j h1 h2 h3 => by
          rcases List.mem_cons.1 h3 with h4 | h4
          · exact h2 h4
          · have := hd.ho j h4; omega
        refine ⟨S', .slice A' (sn.2.length + 1) c', rfl, ?_, hfp0.trans (hfp.trans ⟨hxs.mono fun k hk => .inl (List.mem_cons_of_mem _ hk), fun k hk => ?_⟩)⟩
        · rw [hds.out]
          exact ⟨hd.rb.ext hxs (hdis _ (by omega) (by omega)), hd.tb.ext hxs (hdis _ (by omega) (by omega)), b4'.set 0 _, hd.fb.ext hxs (hdis _ (by omega) (by omega)),
            hs'.move fun k hk => Below.heap_setCell w' _ _ k (fun h => by have := hSm k hk; simp at h; omega),
            hd.th.ext hxs (fun k hk => by simp at hk; subst hk; exact hdis _ (by omega) (by omega)),
            hd.rows.ext hxs (fun k hk => hdis _ (by have := hd.hr k hk; omega) (by have := hd.hr k hk; omega)), hd.hr, hSm, hn' hd.nd (by simp), hd.len, by simp only [List.length_append, List.length_singleton]; exact hcs.out⟩
        · simp only [List.mem_cons] at hk ⊢
          rcases hk with h5 | h5 | h5
          · exact .inl (.inl h5)
          · exact .inl (.inr (.inl h5))
          · rcases hSn k h5 with h6 | h6
            · exact .inl (.inr (.inr h6))
            · exact .inr h6

set_option maxRecDepth 20000 in
set_option maxHeartbeats 800000 in
theorem order_calls {w : World} {S : List Nat} {v : Value} {g : List (List Nat)} (h : SlR kRow 22 w S v g) (hg : Good g) (hn : g.length ≤ 1073741823) :
    Calls Try.prog 35 #[v] w fun e w' => ∃ v' S', e = .returned v' ∧ SlR kNat 3 w' S' v' (orderF g) ∧ New w w' S' := by
  obtain ⟨A, cap, rfl, hcap⟩ := h.shape
  by_cases h0 : g.length = 0
  · have hb : ((g.length : Int) == 0) = true := by simp [h0]
    have ho : Hid (orderF g = []) := by rw [Hid, orderF, if_pos h0]
    clear h0
    go_enter Try.func35, Try.ntmps35
    go_wp2
    go_ret
    exact ⟨_, [], rfl, by rw [ho.out]; exact SlR.nil _ _ _, New.refl _⟩
  · have hb : ((g.length : Int) == 0) = false := beq_eq_false_iff_ne.2 (by omega)
    have ho : Hid (orderF g = (dfs g g.length (List.replicate g.length false, []) 0).2.reverse) := by rw [Hid, orderF, if_neg h0]
    have hpos : 0 < g.length := by omega
    have hmk := run_make_eq Try.underlying63 Try.info4 rfl g.length g.length (by simp) (by omega) (by decide)
    clear h0
    go_enter Try.func35, Try.ntmps35
    go_wp2_with fail
    refine (clean_calls h hg (by omega)).mono ?_
    rintro e w1 ⟨v1, S1, rfl, hr1, hnew1⟩
    obtain ⟨A1, c1, rfl, _⟩ := hr1.shape
    clear hb
    obtain ⟨m, hm⟩ : ∃ m, w1.heap.size = m := ⟨_, rfl⟩
    have hwm : Hid (w.heap.size ≤ m) := by have := hnew1.ext.size; simp only [Hid]; omega
    go_wp2_with fail
    obtain ⟨W, hW⟩ : ∃ W, ((((w1.alloc (.cells #[.slice A1 g.length c1] 33)).alloc (.cells (madeCells #[.bool false] g.length) 4)).alloc
      (.cells #[.slice (some ⟨m + 1, 0, none⟩) g.length g.length] 63)).alloc (.cells #[.slice none 0 0] 22)).alloc (.cells #[.func (.func 64) #[] #[.pointer (some ⟨m + 1 + 1, 0, none⟩), .pointer (some ⟨m, 0, none⟩), .pointer (some ⟨m + 1 + 1 + 1 + 1, 0, none⟩), .pointer (some ⟨m + 1 + 1 + 1, 0, none⟩)]] 67) = W := ⟨_, rfl⟩
    rw [hW]
    obtain ⟨St, ht1, ht2, ht3⟩ := slr_made (d := kBool) (e := 4) (w := w1.alloc (.cells #[.slice A1 g.length c1] 33)) (zc := #[.bool false]) (x := false) g.length g.length (by simp [kBool, kSc]) (by omega) rfl (by decide) (fun w => ⟨rfl, rfl⟩)
    simp only [World.size_alloc, hm] at ht1 ht2
    have hSt : St = [m + 1] := by
      obtain ⟨g', _, _, hv, _, _, _, _, _, hS, _⟩ := slr_own ht1 (by intro h; have := congrArg List.length h; rw [List.length_replicate, List.length_nil] at this; omega)
      rw [hS] at ht2 ⊢
      rw [ht2 g' (by simp)]
    subst hSt
    have hxW : Ext [] w1 W := by rw [← hW]; exact (((((Ext.refl _ _).alloc _).alloc _).alloc _).alloc _).alloc _
    have hd : DSt W m S1 [] A1 c1 g (List.replicate g.length false, []) (.slice none 0 0) := by
      refine ⟨?_, ?_, ?_, ?_, SlR.nil _ _ _, ?_, hr1.ext0 hxW, fun k hk => by rw [← hm]; exact hr1.lt k hk, by simp, by simp, by simp, by simp⟩
      · rw [← hW, ← hm]; exact ((((Blk.new _ _ _).alloc _).alloc _).alloc _).alloc _
      · have := ((Blk.new ((w1.alloc (.cells #[.slice A1 g.length c1] 33)).alloc (.cells (madeCells #[.bool false] g.length) 4)) #[.slice (some ⟨m + 1, 0, none⟩) g.length g.length] 63).alloc (.cells #[.slice none 0 0] 22)).alloc (.cells #[.func (.func 64) #[] #[.pointer (some ⟨m + 1 + 1, 0, none⟩), .pointer (some ⟨m, 0, none⟩), .pointer (some ⟨m + 1 + 1 + 1 + 1, 0, none⟩), .pointer (some ⟨m + 1 + 1 + 1, 0, none⟩)]] 67)
        rw [hW] at this
        simpa [hm] using this
      · have := (Blk.new (((w1.alloc (.cells #[.slice A1 g.length c1] 33)).alloc (.cells (madeCells #[.bool false] g.length) 4)).alloc (.cells #[.slice (some ⟨m + 1, 0, none⟩) g.length g.length] 63)) #[.slice none 0 0] 22).alloc (.cells #[.func (.func 64) #[] #[.pointer (some ⟨m + 1 + 1, 0, none⟩), .pointer (some ⟨m, 0, none⟩), .pointer (some ⟨m + 1 + 1 + 1 + 1, 0, none⟩), .pointer (some ⟨m + 1 + 1 + 1, 0, none⟩)]] 67)
        rw [hW] at this
        simpa [hm] using this
      · have := Blk.new ((((w1.alloc (.cells #[.slice A1 g.length c1] 33)).alloc (.cells (madeCells #[.bool false] g.length) 4)).alloc (.cells #[.slice (some ⟨m + 1, 0, none⟩) g.length g.length] 63)).alloc (.cells #[.slice none 0 0] 22)) #[.func (.func 64) #[] #[.pointer (some ⟨m + 1 + 1, 0, none⟩), .pointer (some ⟨m, 0, none⟩), .pointer (some ⟨m + 1 + 1 + 1 + 1, 0, none⟩), .pointer (some ⟨m + 1 + 1 + 1, 0, none⟩)]] 67
        rw [hW] at this
        simpa [hm] using this
      · rw [← hW]; exact ht1.ext0 ((((Ext.refl _ _).alloc _).alloc _).alloc _)
    refine (over_calls hg hn g.length 0 (List.replicate g.length false, []) [] (.slice none 0 0) W hd hpos (by simp [List.getD, List.getElem?_replicate, hpos]) (by simp)).mono ?_
    rintro e w3 ⟨So, vo, rfl, hd3, hfp⟩
    generalize hst : dfs g g.length (List.replicate g.length false, []) 0 = st at *
    have Hst := Lib.hid hst
    clear hst hW hm
    have d1 := hd3.ob.cell (i := 0) rfl
    obtain ⟨Ao, co, rfl, _⟩ := hd3.out.shape
    have hsm := hd3.small
    go_wp2_with fail
    refine (reverse_calls (slr_nat_int.1 hd3.out) (by simp; omega)).mono ?_
    rintro e w4 ⟨rfl, hr4, hx4⟩
    have hb4 := hd3.ob.ext hx4 (fun hk => by have := hd3.ho _ hk; omega)
    have d2 := hb4.cell (i := 0) rfl
    go_wp2
    go_ret
    refine ⟨_, So, rfl, ?_, ?_⟩
    · rw [ho.out]
      refine slr_nat_int.2 ?_
      rw [List.map_reverse]
      exact hr4
    · have hwm := hwm.out
      refine ⟨((hnew1.ext.nil hxW).trans hfp.1 fun k hk => ?_).trans hx4 fun k hk => .inr (by have := hd3.ho k hk; omega), fun k hk => by have := hd3.ho k hk; omega, hd3.nd⟩
      simp at hk
      rcases hk with h | h
      · exact .inr (by omega)
      · exact .inr (by omega)
end Go.Proofs.Ytkmgbejhbkbaoaa
