/- The program's data, as they are read, opened: structs, slices of structs. By wip/gen_kinds.py. -/
import Derived.Test.YtghfjgacnbcclaaGreatKinds
import Derived.Deep.Slices
import Derived.ChangeArms
namespace Go.Proofs.YtghfjgacnbcclaaGreat
open Go.RowKit Go.Proofs.YtghfjgacnbcclaaGreatW.PrintWords Go.ChangeShapes Go.WideShapes

/-- Whatever reads as data of type t has cells of the kind d. -/
def Opens (P : Program) (t : TypeId) {α : Type} (d : Kd α) : Prop :=
  ∀ {H : Type} {enc : TypeId × Value → H} {w : World} {base : Nat} {spare : Nat → Bool} {held : Bool} {fuel : Nat} {cs : List Value} {x : DataW H × List MemPlace}, DataW.trod enc P w base spare held fuel t cs = some x → ∃ y : α, d.K w y cs
theorem opens_int {P : Program} {t : TypeId} {k : IntKind} (ht : P.underlying t = some (.int k)) : Opens P t (Kd.int k) := fun h => by
  obtain ⟨n, rfl, _⟩ := DataW.trod_int ht h
  exact ⟨n, rfl⟩
theorem opens_bool {P : Program} {t : TypeId} (ht : P.underlying t = some .bool) : Opens P t Kd.bool := fun h => by
  obtain ⟨b, rfl, _⟩ := DataW.trod_bool ht h
  exact ⟨b, rfl⟩
theorem collect {α : Type} {Q : Nat → α → Prop} : ∀ len, (∀ i, i < len → ∃ p : α, Q i p) → ∃ l : List α, l.length = len ∧ ∀ i p, l[i]? = some p → Q i p
  | 0, _ => ⟨[], rfl, fun i p hp => by simp at hp⟩
  | len + 1, h => by
    obtain ⟨l, hl, hq⟩ := collect len (fun i hi => h i (by omega))
    obtain ⟨p, hp⟩ := h len (by omega)
    refine ⟨l ++ [p], by simp [hl], fun i q hi => ?_⟩
    rcases Nat.lt_or_ge i l.length with hil | hil
    · rw [List.getElem?_append_left hil] at hi
      exact hq i q hi
    · rw [List.getElem?_append_right hil] at hi
      have h0 : i - l.length = 0 := by
        rcases Nat.eq_zero_or_pos (i - l.length) with h | h
        · exact h
        · rw [List.getElem?_eq_none (by simp; omega)] at hi; cases hi
      rw [h0] at hi
      simp at hi
      subst hi
      have : i = len := by omega
      subst this
      exact hp
theorem opens_slice {P : Program} {t e : TypeId} {α : Type} {d : Kd α} (ht : P.underlying t = some (.slice e)) (hs : P.cellsOf e = d.sz) (he : Opens P e d) : Opens P t (Kd.slice e d) := fun {H enc w base spare held fuel cs x} h => by
  rcases Deep.open_slice ht h with ⟨rfl, _⟩ | ⟨a, len, cap, m, n, D, Pl, rfl, _, hlc, hcm, hmm, _, hx⟩
  · exact ⟨[], none, 0, rfl, Nat.le_refl _, rfl, by simp, fun h => absurd h (by simp)⟩
  · have hlm : len ≤ m := by rw [hmm]; split <;> omega
    have hex : ∀ i, i < len → ∃ p : α × List Value, w.cells? base (a.add (i * P.cellsOf e)) (P.cellsOf e) = some p.2 ∧ d.K w p.1 p.2 := fun i hi => by
      obtain ⟨cs', h1, h2⟩ := hx i (by omega)
      obtain ⟨y, hy⟩ := he h2
      exact ⟨(y, cs'), h1, hy⟩
    obtain ⟨l, hl, hq⟩ := collect len hex
    refine ⟨l.map (·.1), some a, cap, by simp [hl], by simpa [hl] using hlc, by simp, by simp only [List.length_map, hl]; simp only [maxLen] at hcm; omega, fun _ => ⟨a, rfl, fun j p hj => ?_⟩⟩
    rw [List.getElem?_map] at hj
    obtain ⟨q, hq1, rfl⟩ := Option.map_eq_some_iff.1 hj
    obtain ⟨h1, h2⟩ := hq j q hq1
    refine ⟨q.2, d.K_len h2, h2, fun i u hi => ?_⟩
    unfold World.cells? at h1
    split at h1
    · have hi2 : i < P.cellsOf e := by rw [hs, ← d.K_len h2]; exact (List.getElem?_eq_some_iff.1 hi).1
      have := mapM_some_get h1 i i (by simp [hi2])
      rw [Deep.add_add, hs] at this
      rw [this]; exact hi
    · cases h1
theorem opensPair {α β : Type} {a : Kd α} {b : Kd β} {w : World} {cs : List Value} {x : α × β} (h0 : a.K w x.1 (cs.take a.sz)) (h1 : b.K w x.2 (cs.drop a.sz)) : (Kd.pair a b).K w x cs :=
  ⟨_, _, (List.take_append_drop _ _).symm, h0, h1⟩
theorem get_some {α : Type} {xs : List α} {n i : Nat} (h : xs.length = n) (hi : i < n) : ∃ y, xs[i]? = some y := ⟨xs[i]'(by omega), List.getElem?_eq_getElem (by omega)⟩
set_option maxRecDepth 100000 in
theorem opens_Tid : Opens Tryz.prog 23 kTid := fun {H enc w base spare held fuel cs x} h => by
  obtain ⟨xs, n, _, _, hl, hlen, hf⟩ := DataW.trod_struct Tryz.underlying23 h
  have hc : Tryz.prog.cellsOf 23 = 3 := by kernel_rfl
  rw [hc] at hl
  have hn : xs.length = 3 := hlen
  obtain ⟨u0, e0⟩ := get_some hn (i := 0) (by omega)
  obtain ⟨y0, k0⟩ := (opens_int Tryz.underlying3) ((hf 0 _ rfl).trans e0)
  obtain ⟨u1, e1⟩ := get_some hn (i := 1) (by omega)
  obtain ⟨y1, k1⟩ := (opens_int Tryz.underlying3) ((hf 1 _ rfl).trans e1)
  obtain ⟨u2, e2⟩ := get_some hn (i := 2) (by omega)
  obtain ⟨y2, k2⟩ := (opens_int Tryz.underlying3) ((hf 2 _ rfl).trans e2)
  clear hf h
  match cs, hl with
  | [c0, c1, c2], _ => exact ⟨⟨y0, y1, y2⟩, ⟨[c0], [c1, c2], rfl, k0, ⟨[c1], [c2], rfl, k1, k2⟩⟩⟩
set_option maxRecDepth 100000 in
theorem opens_Item : Opens Tryz.prog 38 kItem := fun {H enc w base spare held fuel cs x} h => by
  obtain ⟨xs, n, _, _, hl, hlen, hf⟩ := DataW.trod_struct Tryz.underlying38 h
  have hc : Tryz.prog.cellsOf 38 = 5 := by kernel_rfl
  rw [hc] at hl
  have hn : xs.length = 5 := hlen
  obtain ⟨u0, e0⟩ := get_some hn (i := 0) (by omega)
  obtain ⟨y0, k0⟩ := (opens_int Tryz.underlying3) ((hf 0 _ rfl).trans e0)
  obtain ⟨u1, e1⟩ := get_some hn (i := 1) (by omega)
  obtain ⟨y1, k1⟩ := (opens_int Tryz.underlying3) ((hf 1 _ rfl).trans e1)
  obtain ⟨u2, e2⟩ := get_some hn (i := 2) (by omega)
  obtain ⟨y2, k2⟩ := (opens_int Tryz.underlying3) ((hf 2 _ rfl).trans e2)
  obtain ⟨u3, e3⟩ := get_some hn (i := 3) (by omega)
  obtain ⟨y3, k3⟩ := (opens_bool Tryz.underlying4) ((hf 3 _ rfl).trans e3)
  obtain ⟨u4, e4⟩ := get_some hn (i := 4) (by omega)
  obtain ⟨y4, k4⟩ := (opens_int Tryz.underlying3) ((hf 4 _ rfl).trans e4)
  clear hf h
  match cs, hl with
  | [c0, c1, c2, c3, c4], _ => exact ⟨⟨y0, y1, y2, y3, y4⟩, ⟨[c0], [c1, c2, c3, c4], rfl, k0, ⟨[c1], [c2, c3, c4], rfl, k1, ⟨[c2], [c3, c4], rfl, k2, ⟨[c3], [c4], rfl, k3, k4⟩⟩⟩⟩⟩
set_option maxRecDepth 100000 in
theorem opens_ACommit : Opens Tryz.prog 41 kACommit := fun {H enc w base spare held fuel cs x} h => by
  obtain ⟨xs, n, _, _, hl, hlen, hf⟩ := DataW.trod_struct Tryz.underlying41 h
  have hc : Tryz.prog.cellsOf 41 = 5 := by kernel_rfl
  rw [hc] at hl
  have hn : xs.length = 3 := hlen
  obtain ⟨u0, e0⟩ := get_some hn (i := 0) (by omega)
  obtain ⟨y0, k0⟩ := opens_Tid ((hf 0 _ rfl).trans e0)
  obtain ⟨u1, e1⟩ := get_some hn (i := 1) (by omega)
  obtain ⟨y1, k1⟩ := (opens_slice Tryz.underlying39 (by kernel_rfl) opens_Item) ((hf 1 _ rfl).trans e1)
  obtain ⟨u2, e2⟩ := get_some hn (i := 2) (by omega)
  obtain ⟨y2, k2⟩ := (opens_int Tryz.underlying3) ((hf 2 _ rfl).trans e2)
  clear hf h
  match cs, hl with
  | [c0, c1, c2, c3, c4], _ => exact ⟨⟨y0, y1, y2⟩, ⟨[c0, c1, c2], [c3, c4], rfl, k0, ⟨[c3], [c4], rfl, k1, k2⟩⟩⟩
set_option maxRecDepth 100000 in
theorem opens_Rec : Opens Tryz.prog 153 kRec := fun {H enc w base spare held fuel cs x} h => by
  obtain ⟨xs, n, _, _, hl, hlen, hf⟩ := DataW.trod_struct Tryz.underlying153 h
  have hc : Tryz.prog.cellsOf 153 = 15 := by kernel_rfl
  rw [hc] at hl
  have hn : xs.length = 13 := hlen
  obtain ⟨u0, e0⟩ := get_some hn (i := 0) (by omega)
  obtain ⟨y0, k0⟩ := (opens_int Tryz.underlying3) ((hf 0 _ rfl).trans e0)
  obtain ⟨u1, e1⟩ := get_some hn (i := 1) (by omega)
  obtain ⟨y1, k1⟩ := opens_Tid ((hf 1 _ rfl).trans e1)
  obtain ⟨u2, e2⟩ := get_some hn (i := 2) (by omega)
  obtain ⟨y2, k2⟩ := (opens_slice Tryz.underlying39 (by kernel_rfl) opens_Item) ((hf 2 _ rfl).trans e2)
  obtain ⟨u3, e3⟩ := get_some hn (i := 3) (by omega)
  obtain ⟨y3, k3⟩ := (opens_slice Tryz.underlying34 (by kernel_rfl) (opens_int Tryz.underlying3)) ((hf 3 _ rfl).trans e3)
  obtain ⟨u4, e4⟩ := get_some hn (i := 4) (by omega)
  obtain ⟨y4, k4⟩ := (opens_int Tryz.underlying3) ((hf 4 _ rfl).trans e4)
  obtain ⟨u5, e5⟩ := get_some hn (i := 5) (by omega)
  obtain ⟨y5, k5⟩ := (opens_int Tryz.underlying3) ((hf 5 _ rfl).trans e5)
  obtain ⟨u6, e6⟩ := get_some hn (i := 6) (by omega)
  obtain ⟨y6, k6⟩ := (opens_int Tryz.underlying3) ((hf 6 _ rfl).trans e6)
  obtain ⟨u7, e7⟩ := get_some hn (i := 7) (by omega)
  obtain ⟨y7, k7⟩ := (opens_int Tryz.underlying3) ((hf 7 _ rfl).trans e7)
  obtain ⟨u8, e8⟩ := get_some hn (i := 8) (by omega)
  obtain ⟨y8, k8⟩ := (opens_int Tryz.underlying3) ((hf 8 _ rfl).trans e8)
  obtain ⟨u9, e9⟩ := get_some hn (i := 9) (by omega)
  obtain ⟨y9, k9⟩ := (opens_int Tryz.underlying3) ((hf 9 _ rfl).trans e9)
  obtain ⟨u10, e10⟩ := get_some hn (i := 10) (by omega)
  obtain ⟨y10, k10⟩ := (opens_int Tryz.underlying3) ((hf 10 _ rfl).trans e10)
  obtain ⟨u11, e11⟩ := get_some hn (i := 11) (by omega)
  obtain ⟨y11, k11⟩ := (opens_int Tryz.underlying3) ((hf 11 _ rfl).trans e11)
  obtain ⟨u12, e12⟩ := get_some hn (i := 12) (by omega)
  obtain ⟨y12, k12⟩ := (opens_bool Tryz.underlying4) ((hf 12 _ rfl).trans e12)
  clear hf h
  match cs, hl with
  | [c0, c1, c2, c3, c4, c5, c6, c7, c8, c9, c10, c11, c12, c13, c14], _ => exact ⟨⟨y0, y1, y2, y3, y4, y5, y6, y7, y8, y9, y10, y11, y12⟩, ⟨[c0], [c1, c2, c3, c4, c5, c6, c7, c8, c9, c10, c11, c12, c13, c14], rfl, k0, ⟨[c1, c2, c3], [c4, c5, c6, c7, c8, c9, c10, c11, c12, c13, c14], rfl, k1, ⟨[c4], [c5, c6, c7, c8, c9, c10, c11, c12, c13, c14], rfl, k2, ⟨[c5], [c6, c7, c8, c9, c10, c11, c12, c13, c14], rfl, k3, ⟨[c6], [c7, c8, c9, c10, c11, c12, c13, c14], rfl, k4, ⟨[c7], [c8, c9, c10, c11, c12, c13, c14], rfl, k5, ⟨[c8], [c9, c10, c11, c12, c13, c14], rfl, k6, ⟨[c9], [c10, c11, c12, c13, c14], rfl, k7, ⟨[c10], [c11, c12, c13, c14], rfl, k8, ⟨[c11], [c12, c13, c14], rfl, k9, ⟨[c12], [c13, c14], rfl, k10, ⟨[c13], [c14], rfl, k11, k12⟩⟩⟩⟩⟩⟩⟩⟩⟩⟩⟩⟩⟩
end Go.Proofs.YtghfjgacnbcclaaGreat
