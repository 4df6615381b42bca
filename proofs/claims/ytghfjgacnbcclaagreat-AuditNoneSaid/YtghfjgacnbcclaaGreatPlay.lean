/- Layer 27, audit: play, Final, Serial. -/
import Derived.Test.YtghfjgacnbcclaaGreatAudit
namespace Go.Proofs.YtghfjgacnbcclaaGreat
open Go.RowKit Go.Proofs.YtghfjgacnbcclaaGreatW.PrintWords

theorem okItem_at {xs : List Item} (h : rightItems xs = true) {j : Nat} (hj : j < xs.length) : okItem xs j = true := by
  unfold rightItems at h
  rw [Bool.and_eq_true] at h
  exact List.all_eq_true.1 h.1 j (List.mem_range.2 hj)
theorem rightItems_version {xs : List Item} (h : rightItems xs = true) {j : Nat} (hj : j < xs.length) : 0 ≤ (xs.getD j Item.z).version ∧ (xs.getD j Item.z).version ≤ 1099511627775 := by
  have h1 := okItem_at h hj
  unfold okItem Item.right at h1
  simp only [Bool.and_eq_true] at h1
  exact inB_one h1.1.1.2
theorem mayE_zero {rs : List Reg} {seen : List Tid} {c : ACommit} (h : mayE rs seen c = 0) : c.tid.right = true ∧ (0 < c.items.length → rightItems c.items = true) ∧ c.tid ∉ seen ∧
    ∀ j, j < c.items.length → 0 ≤ (c.items.getD j Item.z).cell ∧ (c.items.getD j Item.z).cell < rs.length ∧ 0 ≤ (c.items.getD j Item.z).version ∧ (c.items.getD j Item.z).version ≤ 1099511627776 := by
  unfold mayE at h
  split at h
  · cases h
  rename_i h1
  split at h
  · cases h
  rename_i h2
  split at h
  · cases h
  rename_i h3
  split at h
  · cases h
  rename_i h4
  simp only [Bool.or_eq_true, Bool.not_eq_true', Bool.and_eq_true, decide_eq_true_eq, not_or, not_and, Bool.not_eq_false] at h1
  refine ⟨h1.1, h1.2, h3, fun j hj => ?_⟩
  have hri := h1.2 (by omega)
  have hc := rightItems_cell hri hj
  have hv := rightItems_version hri hj
  have hx : ¬ (decide ((rs.length : Int) ≤ (c.items.getD j Item.z).cell) = true) := fun hx => h2 (List.any_eq_true.2 ⟨c.items.getD j Item.z, by rw [List.getD_eq_getElem?_getD, List.getElem?_eq_getElem hj]; exact List.getElem_mem hj, hx⟩)
  simp only [decide_eq_true_eq] at hx
  exact ⟨hc, by omega, hv.1, by omega⟩

def PlayPost (cells : Int) (l : List ACommit) (w : World) (e : Ending) (w' : World) : Prop :=
  Below w.heap.size w w' ∧
  ((1 ≤ cells ∧ cells ≤ 16 ∧ ∃ br bl bm, e = .returned (.tuple #[.pointer (some ⟨br, 0, none⟩), .int .i64 ((playL (List.replicate cells.toNat Reg.z) [] l).2.2.1 : Nat), .int .i64 (playL (List.replicate cells.toNat Reg.z) [] l).2.2.2]) ∧
      RegsAt w' br bl bm (playL (List.replicate cells.toNat Reg.z) [] l).1 (playL (List.replicate cells.toNat Reg.z) [] l).2.1) ∨
   (¬ (1 ≤ cells ∧ cells ≤ 16) ∧ e = .returned (.tuple #[.pointer none, .int .i64 0, .int .i64 1])))

theorem playL_step {rs : List Reg} {seen : List Tid} {l : List ACommit} {k : Nat} (hk : k < l.length) (h : mayE rs seen (l.getD k ACommit.z) = 0) :
    playL rs seen (l.drop k) = ((playL (doRegs rs (l.getD k ACommit.z).items) (seen ++ [(l.getD k ACommit.z).tid]) (l.drop (k + 1))).1, (playL (doRegs rs (l.getD k ACommit.z).items) (seen ++ [(l.getD k ACommit.z).tid]) (l.drop (k + 1))).2.1, (playL (doRegs rs (l.getD k ACommit.z).items) (seen ++ [(l.getD k ACommit.z).tid]) (l.drop (k + 1))).2.2.1 + 1, (playL (doRegs rs (l.getD k ACommit.z).items) (seen ++ [(l.getD k ACommit.z).tid]) (l.drop (k + 1))).2.2.2) := by
  rw [List.getD_eq_getElem?_getD, List.getElem?_eq_getElem hk] at h ⊢
  rw [List.drop_eq_getElem_cons hk]
  conv => lhs; unfold playL
  rw [if_pos (by simpa using h)]
  rfl
theorem playL_stop {rs : List Reg} {seen : List Tid} {l : List ACommit} {k : Nat} (hk : k < l.length) (h : mayE rs seen (l.getD k ACommit.z) ≠ 0) :
    playL rs seen (l.drop k) = (rs, seen, 0, mayE rs seen (l.getD k ACommit.z)) := by
  rw [List.getD_eq_getElem?_getD, List.getElem?_eq_getElem hk] at h ⊢
  rw [List.drop_eq_getElem_cons hk]
  conv => lhs; unfold playL
  rw [if_neg (by simpa using h)]
  rfl

theorem regs_made (w : World) (n : Nat) (h1 : 0 < n) (h2 : n ≤ 16) :
    RegsAt (((w.alloc (.cells ((List.replicate n Reg.z).flatMap Reg.vals).toArray 114)).alloc (.map #[] 0)).alloc (.cells #[.slice (some ⟨w.heap.size, 0, none⟩) n n, .map (some (w.heap.size + 1))] 86))
      (w.heap.size + 2) w.heap.size (w.heap.size + 1) (List.replicate n Reg.z) [] := by
  have hs1 : ((w.alloc (.cells ((List.replicate n Reg.z).flatMap Reg.vals).toArray 114)).alloc (.map #[] 0)).heap.size = w.heap.size + 2 := by simp
  refine ⟨?_, ?_, ⟨#[], 0, ?_, by simp⟩, by simpa using h1, by simpa using h2⟩
  · have := heap_alloc_new ((w.alloc (.cells ((List.replicate n Reg.z).flatMap Reg.vals).toArray 114)).alloc (.map #[] 0)) (.cells #[.slice (some ⟨w.heap.size, 0, none⟩) n n, .map (some (w.heap.size + 1))] 86)
    rw [hs1] at this
    rw [this, List.length_replicate]
  · rw [Below.heap_alloc _ _ _ (by simp; omega), Below.heap_alloc _ _ _ (by simp)]
    exact heap_alloc_new _ _
  · rw [Below.heap_alloc _ _ _ (by simp)]
    have := heap_alloc_new (w.alloc (.cells ((List.replicate n Reg.z).flatMap Reg.vals).toArray 114)) (.map #[] 0)
    simpa using this

set_option maxHeartbeats 4000000 in
set_option maxRecDepth 100000 in
theorem play_any (cells : Int) (A : Option Addr) (cap : Nat) (l : List ACommit) (w : World) (hr : kACommit.C w A l.length l) :
    Calls Tryz.prog 15 #[.int .i64 cells, .slice A l.length cap] w (PlayPost cells l w) := by
  have HR := Lib.hid hr
  have hxl : l.length ≤ 9223372036854775807 := hr.2.1
  clear hr
  by_cases h1 : cells < 1
  · go_enter Tryz.func15, Tryz.ntmps15
    go_wp2
    go_ret3
    exact ⟨Below.refl _ _, .inr ⟨by omega, rfl⟩⟩
  by_cases h2 : 16 < cells
  · have h1d : decide (cells < 1) = false := decide_eq_false h1
    go_enter Tryz.func15, Tryz.ntmps15
    go_wp2
    go_ret3
    exact ⟨Below.refl _ _, .inr ⟨by omega, rfl⟩⟩
  obtain ⟨n, rfl⟩ : ∃ n : Nat, cells = (n : Int) := ⟨cells.toNat, by omega⟩
  have h1d : decide ((n : Int) < 1) = false := decide_eq_false h1
  have hmk := run_make_regs n (by omega)
  have hmm := @run_makeMap Tryz.prog
  generalize hxn : l.length = m at hxl
  have HL := Lib.hid hxn
  clear hxn
  go_enter Tryz.func15, Tryz.ntmps15
  go_wp2
  go_loopg [24] m (fun gg s24 wr => ∃ (kk : Nat) (rs : List Reg) (seen : List Tid), kk ≤ m ∧ m - kk ≤ gg ∧ s24 = .int .i64 kk ∧ Aside (Below w.heap.size w wr) ∧ Aside (RegsAt wr (w.heap.size + 2) w.heap.size (w.heap.size + 1) rs seen) ∧
      Aside (playL (List.replicate n Reg.z) [] l = ((playL rs seen (l.drop kk)).1, (playL rs seen (l.drop kk)).2.1, (playL rs seen (l.drop kk)).2.2.1 + kk, (playL rs seen (l.drop kk)).2.2.2)))
  case atStart => exact ⟨0, List.replicate n Reg.z, [], Nat.zero_le _, by omega, rfl, below_tr (below_tr (below_alloc1 _ _) (below_alloc1 _ _)) (below_alloc1 _ _), regs_made w n (by omega) (by omega), rfl⟩
  case round =>
    obtain ⟨kk, rs, seen, hkk, hg, rfl, BR, RR, EQ⟩ := hrel
    by_cases hlt : kk < m
    · have hltz : (kk : Int) < (m : Int) := by omega
      obtain ⟨b, o, A3, c3, hA, hb, h0, h1, h2, h3, h4, hl3, hC⟩ := kACommit_at HR.out kk (by show kk < l.length; rw [HL.out]; exact hlt)
      subst hA
      have zr : w.heap.size ≤ wr.heap.size := BR.out.size
      have hbr : b < wr.heap.size := by omega
      replace h0 := (BR.out.cell (p := ⟨b, o + kk * 5, none⟩) hb).trans h0
      replace h1 := (BR.out.cell (p := ⟨b, o + kk * 5 + 1, none⟩) hb).trans h1
      replace h2 := (BR.out.cell (p := ⟨b, o + kk * 5 + 2, none⟩) hb).trans h2
      replace h3 := (BR.out.cell (p := ⟨b, o + kk * 5 + 3, none⟩) hb).trans h3
      replace h4 := (BR.out.cell (p := ⟨b, o + kk * 5 + 4, none⟩) hb).trans h4
      have HSTEP := Lib.hid (playL_step (rs := rs) (seen := seen) (l := l) (k := kk) (by rw [HL.out]; exact hlt))
      have HSTOP := Lib.hid (playL_stop (rs := rs) (seen := seen) (l := l) (k := kk) (by rw [HL.out]; exact hlt))
      generalize hx : l.getD kk ACommit.z = c at h0 h1 h2 h3 h4 hl3 hC HSTEP HSTOP
      clear hx
      have HC := Lib.hid hC
      clear hC
      go_wp2_with (fail)
      refine calls_gen fun w1 hw1 => ?_
      have bw1 : Below wr.heap.size wr w1 := by rw [hw1.out]; exact below_alloc1 _ _
      have q0 : w1.cell? ⟨wr.heap.size, 0, none⟩ = some (.int .i64 c.tid.node) := by rw [hw1.out]; simp
      have q1 : w1.cell? ⟨wr.heap.size, 1, none⟩ = some (.int .i64 c.tid.epoch) := by rw [hw1.out]; simp
      have q2 : w1.cell? ⟨wr.heap.size, 2, none⟩ = some (.int .i64 c.tid.seq) := by rw [hw1.out]; simp
      have q3 : w1.cell? ⟨wr.heap.size, 3, none⟩ = some (.slice A3 c.items.length c3) := by rw [hw1.out]; simp
      have q4 : w1.cell? ⟨wr.heap.size, 4, none⟩ = some (.int .i64 c.at_) := by rw [hw1.out]; simp
      have zw1 : wr.heap.size < w1.heap.size := by rw [hw1.out]; simp
      clear h0 h1 h2 h3 h4
      refine (may_any _ _ _ rs seen c A3 c3 w1 (RR.out.below bw1) (Kd.C_below HC.out (below_tr BR.out bw1))).mono ?_
      rintro e w2 ⟨rfl, bw2⟩
      obtain ⟨cw2, fw2⟩ := bcell bw2
      by_cases he : mayE rs seen c = 0
      · have hed : (mayE rs seen c != 0) = false := by rw [bne_eq_false_iff_eq]; exact he
        have HE := Lib.hid he
        clear he
        obtain ⟨_, _, hnt, hin⟩ := mayE_zero HE.out
        have HNT := Lib.hid hnt
        have HIN := Lib.hid hin
        clear hnt hin
        have zw2 : wr.heap.size < w2.heap.size := by have := bw2.size; omega
        go_wp2_with (fail)
        have R2 := (RR.out.below bw1).below bw2
        refine (do_any _ _ _ rs seen c A3 c3 w w2 ((below_tr BR.out bw1).trans (bw2.mono (by omega))) (Nat.le_refl _) (by omega) R2 HC.out HNT.out HIN.out).mono ?_
        rintro e w3 ⟨rfl, hb3, hr3⟩
        have HB3 := Lib.hid hb3
        have HR3 := Lib.hid hr3
        clear hb3 hr3 R2
        go_wp2
        go_roundg (m - (kk + 1))
        case measure => omega
        case rel =>
          refine ⟨kk + 1, doRegs rs c.items, seen ++ [c.tid], by omega, by omega, by go_num, HB3.out, HR3.out, (show Aside _ from ?_)⟩
          show _ = _
          rw [EQ.out, HSTEP.out HE.out]
          simp only [Prod.mk.injEq, true_and, and_true]
          omega
      · have hed : (mayE rs seen c != 0) = true := by rw [bne_iff_ne]; exact he
        have HE := Lib.hid he
        clear he
        go_wp2
        go_ret3
        refine ⟨below_tr (below_tr BR.out bw1) bw2, .inl ⟨by omega, by omega, w.heap.size + 2, w.heap.size, w.heap.size + 1, ?_, ?_⟩⟩
        · show Ending.returned (.tuple #[.pointer (some ⟨w.heap.size + 2, 0, none⟩), .int .i64 (kk : Int), .int .i64 (mayE rs seen c)]) = _
          rw [Int.toNat_natCast, EQ.out, HSTOP.out HE.out]
          simp
        · rw [Int.toNat_natCast, EQ.out, HSTOP.out HE.out]
          exact (RR.out.below bw1).below bw2
    · have hltz : ¬ (kk : Int) < (m : Int) := by omega
      have : kk = m := by omega
      subst this
      go_wp2
      go_ret3
      refine ⟨BR.out, .inl ⟨by omega, by omega, w.heap.size + 2, w.heap.size, w.heap.size + 1, ?_, ?_⟩⟩
      · show Ending.returned (.tuple #[.pointer (some ⟨w.heap.size + 2, 0, none⟩), .int .i64 (kk : Int), .int .i64 0]) = _
        rw [Int.toNat_natCast, EQ.out, List.drop_eq_nil_of_le (by rw [HL.out]; omega)]
        simp [playL]
      · rw [Int.toNat_natCast, EQ.out, List.drop_eq_nil_of_le (by rw [HL.out]; omega)]
        exact RR.out

end Go.Proofs.YtghfjgacnbcclaaGreat
