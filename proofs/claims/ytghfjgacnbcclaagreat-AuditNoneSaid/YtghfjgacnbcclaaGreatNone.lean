/- Statement AuditNone: the watch that isn't there, and the law's own walk. -/
import Derived.Test.YtghfjgacnbcclaaGreatAwake
namespace Go.Proofs.YtghfjgacnbcclaaGreat
open Go.RowKit Go.Proofs.YtghfjgacnbcclaaGreatW.PrintWords

set_option maxHeartbeats 1000000 in
set_option maxRecDepth 100000 in
theorem decided_nil (t : Tid) (w : World) : Calls Tryz.prog 5 #[.pointer none, .agg #[.int .i64 t.node, .int .i64 t.epoch, .int .i64 t.seq]] w fun e w' => e = .returned (.tuple #[.bool false, .bool false]) ∧ Below w.heap.size w w' := by
  go_enter Tryz.func5, Tryz.ntmps5
  go_wp2
  go_ret2
  exact ⟨rfl, below_alloc1 _ _⟩
set_option maxHeartbeats 1000000 in
set_option maxRecDepth 100000 in
theorem config_nil (w : World) : Calls Tryz.prog 11 #[.pointer none] w fun e w' => e = .returned (.agg #[.int .i64 0, .int .i64 0, .int .i64 0]) ∧ Below w.heap.size w w' := by
  go_enter Tryz.func11, Tryz.ntmps11
  go_wp2
  (try simp only [Exit.inBlock, Exit.then])
  refine bodyPost_ret (by simp [results, Tryz.results11, go_sem]; try rfl) rfl ?_
  exact ⟨by go_simp, below_alloc1 _ _⟩
set_option maxHeartbeats 1000000 in
set_option maxRecDepth 100000 in
theorem commits_nil (w : World) : Calls Tryz.prog 8 #[.pointer none] w fun e w' => e = .returned (.slice none 0 0) ∧ Below w.heap.size w w' := by
  go_enter Tryz.func8, Tryz.ntmps8
  go_wp2
  go_ret

  exact ⟨rfl, Below.refl _ _⟩
set_option maxHeartbeats 1000000 in
set_option maxRecDepth 100000 in
theorem owners_nil (c : Int) (w : World) : Calls Tryz.prog 9 #[.pointer none, .int .i64 c] w fun e w' => e = .returned (.slice none 0 0) ∧ Below w.heap.size w w' := by
  go_enter Tryz.func9, Tryz.ntmps9
  go_wp2
  go_ret
  exact ⟨rfl, Below.refl _ _⟩
set_option maxHeartbeats 1000000 in
set_option maxRecDepth 100000 in
theorem look_nil (w : World) : Calls Tryz.prog 7 #[.pointer none] w fun e w' => e = .returned (.int .i64 1) ∧ Below w.heap.size w w' := by
  go_enter Tryz.func7, Tryz.ntmps7
  go_wp2
  go_ret
  exact ⟨rfl, Below.refl _ _⟩

theorem field_cfg0 (x y z : Int) (w : World) : (Instr.field 49 (.agg #[.int .i64 x, .int .i64 y, .int .i64 z]) 0).run Tryz.prog w = .ok (.int .i64 x) w := by kernel_rfl
theorem field_cfg1 (x y z : Int) (w : World) : (Instr.field 49 (.agg #[.int .i64 x, .int .i64 y, .int .i64 z]) 1).run Tryz.prog w = .ok (.int .i64 y) w := by kernel_rfl
theorem eql_nilC (w : World) : (binOp .eql 32 (.slice none 0 0) (.slice none 0 0)).run Tryz.prog w = .ok (.bool true) w := by kernel_rfl
theorem info_seen : (Tryz.prog.info? 60).map (fun i => (i.zero, i.size)) = some (some (.agg #[.string ByteArray.empty, .int .i64 0, .int .i64 0, .int .i64 0, .int .i64 0, .slice none 0 0, .slice none 0 0, .slice none 0 0, .slice none 0 0]), 9) := by kernel_rfl
theorem make_seen (W : World) : ∃ o : Obj, (Instr.makeSlice 44 (.int .i64 0) (.int .i64 0)).run Tryz.prog W = .ok (.slice (some ⟨W.heap.size, 0, none⟩) 0 0) (W.alloc o) := by
  obtain ⟨i, hi, hzz⟩ := Option.map_eq_some_iff.1 info_seen
  simp only [Prod.mk.injEq] at hzz
  obtain ⟨hz, hs⟩ := hzz
  exact ⟨_, run_make (P := Tryz.prog) W 44 60 i _ Tryz.underlying44 hi hz .i64 .i64 0 0 (by omega) (Int.le_refl _) (by omega) (by omega)⟩
attribute [local go_sem] field_cfg0 field_cfg1 eql_nilC
set_option maxRecDepth 100000 in
theorem cloneC_nil (w : World) : Calls Tryz.prog 13 #[.slice none 0 0] w fun e w' => e = .returned (.slice none 0 0) ∧ Below w.heap.size w w' := by
  go_enter Tryz.func13, Tryz.ntmps13
  go_wp2
  go_ret
  exact ⟨rfl, Below.refl _ _⟩
/-- A watch of no cluster. -/
structure Bare (w : World) (b : Nat) : Prop where
  lt : b < w.heap.size
  c0 : w.cell? ⟨b, 0, none⟩ = some (.pointer none)
  c1 : ∃ A c, w.cell? ⟨b, 1, none⟩ = some (.slice A 0 c)
  c2 : w.cell? ⟨b, 2, none⟩ = some (.slice none 0 0)
  c4 : w.cell? ⟨b, 4, none⟩ = some (.int .i64 0)
theorem Bare.next {w W : World} {b : Nat} (h : Bare w b) (hb : Below w.heap.size w W) : Bare W b := by
  obtain ⟨hc, hf⟩ := bcell hb
  obtain ⟨A, c, h1⟩ := h.c1
  exact ⟨Nat.lt_of_lt_of_le h.lt hb.size, (hc _ _ h.lt).trans h.c0, ⟨A, c, (hc _ _ h.lt).trans h1⟩, (hc _ _ h.lt).trans h.c2, (hc _ _ h.lt).trans h.c4⟩
set_option maxHeartbeats 1000000 in
set_option maxRecDepth 100000 in
theorem new_nil (w : World) : Calls Tryz.prog 6 #[.pointer none] w fun e w' => ∃ b, e = .returned (.pointer (some ⟨b, 0, none⟩)) ∧ Below w.heap.size w w' ∧ Bare w' b := by
  go_enter Tryz.func6, Tryz.ntmps6
  go_wp2_with (fail)
  refine (config_nil w).mono ?_
  rintro e w1 ⟨rfl, b1⟩
  obtain ⟨o, hmk⟩ := make_seen w1
  have hmm := @run_makeMap Tryz.prog
  go_wp2
  go_ret
  refine ⟨_, rfl, below_tr b1 (below_tr (below_tr (below_alloc1 _ _) (below_alloc1 _ _)) (below_alloc1 _ _)), ?_⟩
  refine ⟨by simp, by go_simp, ⟨_, _, by go_simp; exact ⟨rfl, rfl⟩⟩, by go_simp, by go_simp⟩
set_option maxHeartbeats 1000000 in
set_option maxRecDepth 100000 in
theorem commits_bare (b : Nat) (w : World) (h : Bare w b) : Calls Tryz.prog 8 #[.pointer (some ⟨b, 0, none⟩)] w fun e w' => e = .returned (.slice none 0 0) ∧ Below w.heap.size w w' := by
  obtain ⟨lt, c0, ⟨A, c, c1⟩, c2, c4⟩ := h
  go_enter Tryz.func8, Tryz.ntmps8
  go_wp2_with (fail)
  refine (cloneC_nil w).mono ?_
  rintro e w1 ⟨rfl, b1⟩
  go_wp2
  go_ret
  exact ⟨rfl, b1⟩
set_option maxHeartbeats 1000000 in
set_option maxRecDepth 100000 in
theorem look_bare (b : Nat) (w : World) (h : Bare w b) : Calls Tryz.prog 7 #[.pointer (some ⟨b, 0, none⟩)] w fun e w' => e = .returned (.int .i64 0) ∧ Below w.heap.size w w' := by
  obtain ⟨lt, c0, ⟨A, c, c1⟩, c2, c4⟩ := h
  go_enter Tryz.func7, Tryz.ntmps7
  go_wp2
  go_loopg [3] 0 (fun gg s3 wr => s3 = .int .i64 1 ∧ wr = w)
  case atStart => exact ⟨rfl, rfl⟩
  case round =>
    obtain ⟨rfl, rfl⟩ := hrel
    go_wp2
    go_loopg [4] 0 (fun gg s4 wq => s4 = .int .i64 0 ∧ wq = wr)
    case atStart => exact ⟨rfl, rfl⟩
    case round =>
      obtain ⟨rfl, rfl⟩ := hrel
      go_wp2_with (fail)
      refine (config_nil wr).mono ?_
      rintro e w1 ⟨rfl, b1⟩
      obtain ⟨hc, hf⟩ := bcell b1
      have hd4 := (hc b 4 lt).trans c4
      go_wp2
      go_ret
      exact ⟨rfl, b1⟩

set_option maxHeartbeats 2000000 in
set_option maxRecDepth 100000 in
theorem auditNone_walk (t : Tid) (c : Int) (w : World) : Calls Tryz.prog 3 #[.agg #[.int .i64 t.node, .int .i64 t.epoch, .int .i64 t.seq], .int .i64 c] w fun e w' => e = .returned (.bool true) ∧ Below w.heap.size w w' := by
  go_enter Tryz.func3, Tryz.ntmps3
  go_wp2_with (fail)
  refine calls_gen fun w0 h0 => ?_
  have b0 : Below w.heap.size w w0 := by rw [h0.out]; exact below_alloc1 _ _
  have a0 : w0.cell? ⟨w.heap.size, 0, none⟩ = some (.int .i64 t.node) := by rw [h0.out]; go_simp
  have a1 : w0.cell? ⟨w.heap.size, 1, none⟩ = some (.int .i64 t.epoch) := by rw [h0.out]; go_simp
  have a2 : w0.cell? ⟨w.heap.size, 2, none⟩ = some (.int .i64 t.seq) := by rw [h0.out]; go_simp
  have z0 : w.heap.size < w0.heap.size := by rw [h0.out]; simp
  clear h0
  refine (awake27_any w0).mono ?_
  rintro e w1 ⟨rfl, b1⟩
  obtain ⟨hc1, hf1⟩ := bcell b1
  replace a0 := (hc1 _ 0 z0).trans a0
  replace a1 := (hc1 _ 1 z0).trans a1
  replace a2 := (hc1 _ 2 z0).trans a2
  clear hc1 hf1
  go_wp2_with (fail)
  refine (decided_nil t w1).mono ?_
  rintro e w2 ⟨rfl, b2⟩
  go_wp2_with (fail)
  refine (new_nil w2).mono ?_
  rintro e w3 ⟨b, rfl, b3, hB⟩
  go_wp2_with (fail)
  refine (look_nil w3).mono ?_
  rintro e w4 ⟨rfl, b4⟩
  go_wp2_with (fail)
  refine (commits_nil w4).mono ?_
  rintro e w5 ⟨rfl, b5⟩
  go_wp2_with (fail)
  refine (owners_nil c w5).mono ?_
  rintro e w6 ⟨rfl, b6⟩
  go_wp2_with (fail)
  have hB6 := hB.next (below_tr b4 (below_tr b5 b6))
  refine (look_bare b w6 hB6).mono ?_
  rintro e w7 ⟨rfl, b7⟩
  go_wp2_with (fail)
  refine (commits_bare b w7 (hB6.next b7)).mono ?_
  rintro e w8 ⟨rfl, b8⟩
  go_wp2
  go_ret
  exact ⟨rfl, below_tr b0 (below_tr b1 (below_tr b2 (below_tr b3 (below_tr b4 (below_tr b5 (below_tr b6 (below_tr b7 b8)))))))⟩
end Go.Proofs.YtghfjgacnbcclaaGreat
