/- slices.IndexFunc and slices.ContainsFunc at each element type, for whatever function value answers a bool and leaves what there was. By wip/gen_funcs.py. -/
import Derived.Test.YtghfjgacnbcclaaGreatProg
import Derived.WalkKit
import Derived.WalkSpells
import Derived.WalkLawsBesides
import Derived.Deep.LoopGhost
import Derived.Lib.Hide
namespace Go.Proofs.YtghfjgacnbcclaaGreat
open Go.RowKit

/-- The first place from i on, of d places, at which p holds; -1: none. -/
def firstFrom (p : Nat → Bool) : Nat → Nat → Int
  | 0, _ => -1
  | d + 1, i => if p i = true then (i : Int) else firstFrom p d (i + 1)
def firstIdx (p : Nat → Bool) (n : Nat) : Int := firstFrom p n 0
theorem firstFrom_skip (p : Nat → Bool) : ∀ (k d i : Nat), (∀ j, i ≤ j → j < i + k → p j = false) → firstFrom p (k + d) i = firstFrom p d (i + k)
  | 0, d, i, _ => by simp
  | k + 1, d, i, h => by
    have e : k + 1 + d = (k + d) + 1 := by omega
    rw [e]
    show (if p i = true then (i : Int) else firstFrom p (k + d) (i + 1)) = _
    rw [if_neg (by rw [h i (by omega) (by omega)]; simp), firstFrom_skip p k d (i + 1) (fun j h1 h2 => h j (by omega) (by omega))]
    congr 1; omega
theorem firstIdx_hit {p : Nat → Bool} {n k : Nat} (hk : k < n) (h : ∀ j, j < k → p j = false) (hp : p k = true) : firstIdx p n = (k : Int) := by
  unfold firstIdx
  obtain ⟨d, rfl⟩ : ∃ d, n = k + (d + 1) := ⟨n - k - 1, by omega⟩
  rw [firstFrom_skip p k (d + 1) 0 (fun j _ h2 => h j (by omega))]
  simp [firstFrom, hp]
theorem firstIdx_miss {p : Nat → Bool} {n : Nat} (h : ∀ j, j < n → p j = false) : firstIdx p n = -1 := by
  unfold firstIdx
  have := firstFrom_skip p n 0 0 (fun j _ h2 => h j (by omega))
  simpa [firstFrom] using this
/-- Where it is: found, or nowhere. -/
theorem firstIdx_cases (p : Nat → Bool) (n : Nat) : (∃ k, k < n ∧ (∀ j, j < k → p j = false) ∧ p k = true ∧ firstIdx p n = (k : Int)) ∨ ((∀ j, j < n → p j = false) ∧ firstIdx p n = -1) := by
  by_cases h : ∃ k, k < n ∧ p k = true
  · have : ∃ k, k < n ∧ p k = true ∧ ∀ j, j < k → p j = false := by
      obtain ⟨k, hk, hp⟩ := h
      induction k using Nat.strongRecOn with
      | _ k ih =>
        by_cases h2 : ∃ j, j < k ∧ p j = true
        · obtain ⟨j, hj, hpj⟩ := h2
          exact ih j hj (by omega) hpj
        · exact ⟨k, hk, hp, fun j hj => by
            cases e : p j with
            | false => rfl
            | true => exact absurd ⟨j, hj, e⟩ h2⟩
    obtain ⟨k, hk, hp, hj⟩ := this
    exact .inl ⟨k, hk, hj, hp, firstIdx_hit hk hj hp⟩
  · have hm : ∀ j, j < n → p j = false := fun j hj => by
      cases e : p j with
      | false => rfl
      | true => exact absurd ⟨j, hj, e⟩ h
    exact .inr ⟨hm, firstIdx_miss hm⟩
/-- Is there one? -/
def anyIdx (p : Nat → Bool) (n : Nat) : Bool := decide (0 ≤ firstIdx p n)
theorem anyIdx_iff (p : Nat → Bool) (n : Nat) : anyIdx p n = true ↔ ∃ k, k < n ∧ p k = true := by
  unfold anyIdx
  rcases firstIdx_cases p n with ⟨k, hk, _, hp, e⟩ | ⟨h, e⟩
  · rw [e]; exact ⟨fun _ => ⟨k, hk, hp⟩, fun _ => decide_eq_true (by omega)⟩
  · rw [e]; exact ⟨fun h2 => absurd h2 (by decide), fun ⟨k, hk, hp⟩ => by rw [h k hk] at hp; cases hp⟩
theorem firstIdx_congr {p q : Nat → Bool} {n : Nat} (h : ∀ j, j < n → p j = q j) : firstIdx p n = firstIdx q n := by
  rcases firstIdx_cases p n with ⟨k, hk, hj, hp, e⟩ | ⟨hm, e⟩
  · rw [e, firstIdx_hit hk (fun j hjk => by rw [← h j (by omega)]; exact hj j hjk) (by rw [← h k hk]; exact hp)]
  · rw [e, firstIdx_miss (fun j hj => by rw [← h j hj]; exact hm j hj)]
theorem enters1 {P : Program} {f : FuncId} {fn : Func} {c : Code} (hf : P.funcs[f]? = some fn) (hname : (fn.name == "runtime.NumGoroutine") = false) (hb : fn.body = some c) : ∀ args w, (callFunc f args).run P w = .ok (.enter f args) w := by
  intro args w
  have h1 : fn.name ≠ "runtime.NumGoroutine" := by simpa using hname
  simp [callFunc, hf, h1, hb, mark]
/-- A row's cells, k to an element, as a function of place and number; nothing is asked of an empty row. -/
def RowCells (w : World) (A : Option Addr) (n k : Nat) (c : Nat → Nat → Value) : Prop :=
  n ≤ 9223372036854775807 ∧ (0 < n → ∃ b off, A = some ⟨b, off, none⟩ ∧ b < w.heap.size ∧ ∀ j i, j < n → i < k → w.cell? ⟨b, off + j * k + i, none⟩ = some (c j i))

set_option maxHeartbeats 1000000 in
set_option maxRecDepth 100000 in
theorem indexFuncInt (g : Nat) (fi lb : Array Value) (eg : ∀ args w, (callFunc g args).run Tryz.prog w = .ok (.enter g args) w) (A : Option Addr) (n cap : Nat) (c : Nat → Nat → Value) (p : Nat → Bool) (w : World)
    (hr : RowCells w A n 1 c)
    (hp : ∀ j W, j < n → Below w.heap.size w W → Calls Tryz.prog g (fi ++ #[c j 0] ++ lb) W fun e w' => e = .returned (.bool (p j)) ∧ Below W.heap.size W w') :
    Calls Tryz.prog 110 #[.slice A n cap, .func (.func g) fi lb] w fun e w' => e = .returned (.int .i64 (firstIdx p n)) ∧ Below w.heap.size w w' := by
  obtain ⟨hn, hr⟩ := hr
  rcases Nat.eq_zero_or_pos n with h0 | h0
  · subst h0
    go_enter Tryz.func110, Tryz.ntmps110
    go_wp2
    go_loopg [5, 8] 0 (fun gg _ s8 wr => s8 = .int .i64 0 ∧ Aside (Below w.heap.size w wr))
    case atStart => exact ⟨rfl, Below.refl _ w⟩
    case round =>
      obtain ⟨rfl, BW⟩ := hrel
      go_wp2
      go_ret
      exact ⟨rfl, BW.out⟩
  obtain ⟨b, off, rfl, hb, hc⟩ := hr h0
  clear hr h0
  go_enter Tryz.func110, Tryz.ntmps110
  go_wp2
  go_loopg [5, 8] n (fun gg _ s8 wr => ∃ kk : Nat, kk ≤ n ∧ n - kk ≤ gg ∧ s8 = .int .i64 kk ∧ Aside (Below w.heap.size w wr) ∧ Aside (∀ j, j < kk → p j = false))
  case atStart => exact ⟨0, Nat.zero_le _, by omega, rfl, Below.refl _ w, fun j hj => absurd hj (Nat.not_lt_zero _)⟩
  case round =>
    obtain ⟨kk, hkk, hg, rfl, BW, A⟩ := hrel
    by_cases hlt : kk < n
    · have hltz : (kk : Int) < (n : Int) := by omega
      have h0 : wr.cell? ⟨b, off + kk, none⟩ = some (c kk 0) := (BW.out.cell (p := ⟨b, off + kk, none⟩) hb).trans (by have := hc kk 0 hlt (by omega); rwa [Nat.mul_one, Nat.add_zero] at this)
      have hcall := hp kk wr hlt BW.out
      clear hp hc
      cases hq : p kk with
      | true =>
        rw [hq] at hcall
        go_wp2_with (fail)
        refine hcall.mono ?_
        rintro e w' ⟨rfl, hb'⟩
        go_wp2
        go_ret
        exact ⟨by rw [firstIdx_hit hlt A.out hq]; rfl, BW.out.trans (hb'.mono BW.out.size)⟩
      | false =>
        rw [hq] at hcall
        go_wp2_with (fail)
        refine hcall.mono ?_
        rintro e w' ⟨rfl, hb'⟩
        go_wp2
        go_roundg (n - (kk + 1))
        case measure => omega
        case rel =>
          refine ⟨kk + 1, by omega, by omega, by go_num, (show Aside _ from BW.out.trans (hb'.mono BW.out.size)), (show Aside _ from fun j hj => ?_)⟩
          by_cases e : j = kk
          · subst e
            exact hq
          · exact A.out j (by omega)
    · have hltz : ¬ (kk : Int) < (n : Int) := by omega
      have : kk = n := by omega
      subst this
      go_wp2
      go_ret
      exact ⟨by rw [firstIdx_miss A.out]; rfl, BW.out⟩

set_option maxHeartbeats 1000000 in
set_option maxRecDepth 100000 in
theorem indexFuncItem (g : Nat) (fi lb : Array Value) (eg : ∀ args w, (callFunc g args).run Tryz.prog w = .ok (.enter g args) w) (A : Option Addr) (n cap : Nat) (c : Nat → Nat → Value) (p : Nat → Bool) (w : World)
    (hr : RowCells w A n 5 c)
    (hp : ∀ j W, j < n → Below w.heap.size w W → Calls Tryz.prog g (fi ++ #[.agg #[c j 0, c j 1, c j 2, c j 3, c j 4]] ++ lb) W fun e w' => e = .returned (.bool (p j)) ∧ Below W.heap.size W w') :
    Calls Tryz.prog 62 #[.slice A n cap, .func (.func g) fi lb] w fun e w' => e = .returned (.int .i64 (firstIdx p n)) ∧ Below w.heap.size w w' := by
  obtain ⟨hn, hr⟩ := hr
  rcases Nat.eq_zero_or_pos n with h0 | h0
  · subst h0
    go_enter Tryz.func62, Tryz.ntmps62
    go_wp2
    go_loopg [5, 8] 0 (fun gg _ s8 wr => s8 = .int .i64 0 ∧ Aside (Below w.heap.size w wr))
    case atStart => exact ⟨rfl, Below.refl _ w⟩
    case round =>
      obtain ⟨rfl, BW⟩ := hrel
      go_wp2
      go_ret
      exact ⟨rfl, BW.out⟩
  obtain ⟨b, off, rfl, hb, hc⟩ := hr h0
  clear hr h0
  go_enter Tryz.func62, Tryz.ntmps62
  go_wp2
  go_loopg [5, 8] n (fun gg _ s8 wr => ∃ kk : Nat, kk ≤ n ∧ n - kk ≤ gg ∧ s8 = .int .i64 kk ∧ Aside (Below w.heap.size w wr) ∧ Aside (∀ j, j < kk → p j = false))
  case atStart => exact ⟨0, Nat.zero_le _, by omega, rfl, Below.refl _ w, fun j hj => absurd hj (Nat.not_lt_zero _)⟩
  case round =>
    obtain ⟨kk, hkk, hg, rfl, BW, A⟩ := hrel
    by_cases hlt : kk < n
    · have hltz : (kk : Int) < (n : Int) := by omega
      have h0 : wr.cell? ⟨b, off + kk * 5, none⟩ = some (c kk 0) := (BW.out.cell (p := ⟨b, off + kk * 5, none⟩) hb).trans (hc kk 0 hlt (by omega))
      have h1 : wr.cell? ⟨b, off + kk * 5 + 1, none⟩ = some (c kk 1) := (BW.out.cell (p := ⟨b, off + kk * 5 + 1, none⟩) hb).trans (hc kk 1 hlt (by omega))
      have h2 : wr.cell? ⟨b, off + kk * 5 + 2, none⟩ = some (c kk 2) := (BW.out.cell (p := ⟨b, off + kk * 5 + 2, none⟩) hb).trans (hc kk 2 hlt (by omega))
      have h3 : wr.cell? ⟨b, off + kk * 5 + 3, none⟩ = some (c kk 3) := (BW.out.cell (p := ⟨b, off + kk * 5 + 3, none⟩) hb).trans (hc kk 3 hlt (by omega))
      have h4 : wr.cell? ⟨b, off + kk * 5 + 4, none⟩ = some (c kk 4) := (BW.out.cell (p := ⟨b, off + kk * 5 + 4, none⟩) hb).trans (hc kk 4 hlt (by omega))
      have hcall := hp kk wr hlt BW.out
      clear hp hc
      cases hq : p kk with
      | true =>
        rw [hq] at hcall
        go_wp2_with (fail)
        refine hcall.mono ?_
        rintro e w' ⟨rfl, hb'⟩
        go_wp2
        go_ret
        exact ⟨by rw [firstIdx_hit hlt A.out hq]; rfl, BW.out.trans (hb'.mono BW.out.size)⟩
      | false =>
        rw [hq] at hcall
        go_wp2_with (fail)
        refine hcall.mono ?_
        rintro e w' ⟨rfl, hb'⟩
        go_wp2
        go_roundg (n - (kk + 1))
        case measure => omega
        case rel =>
          refine ⟨kk + 1, by omega, by omega, by go_num, (show Aside _ from BW.out.trans (hb'.mono BW.out.size)), (show Aside _ from fun j hj => ?_)⟩
          by_cases e : j = kk
          · subst e
            exact hq
          · exact A.out j (by omega)
    · have hltz : ¬ (kk : Int) < (n : Int) := by omega
      have : kk = n := by omega
      subst this
      go_wp2
      go_ret
      exact ⟨by rw [firstIdx_miss A.out]; rfl, BW.out⟩

set_option maxHeartbeats 1000000 in
set_option maxRecDepth 100000 in
theorem indexFuncPrepared (g : Nat) (fi lb : Array Value) (eg : ∀ args w, (callFunc g args).run Tryz.prog w = .ok (.enter g args) w) (A : Option Addr) (n cap : Nat) (c : Nat → Nat → Value) (p : Nat → Bool) (w : World)
    (hr : RowCells w A n 5 c)
    (hp : ∀ j W, j < n → Below w.heap.size w W → Calls Tryz.prog g (fi ++ #[.agg #[c j 0, c j 1, c j 2, c j 3, c j 4]] ++ lb) W fun e w' => e = .returned (.bool (p j)) ∧ Below W.heap.size W w') :
    Calls Tryz.prog 147 #[.slice A n cap, .func (.func g) fi lb] w fun e w' => e = .returned (.int .i64 (firstIdx p n)) ∧ Below w.heap.size w w' := by
  obtain ⟨hn, hr⟩ := hr
  rcases Nat.eq_zero_or_pos n with h0 | h0
  · subst h0
    go_enter Tryz.func147, Tryz.ntmps147
    go_wp2
    go_loopg [5, 8] 0 (fun gg _ s8 wr => s8 = .int .i64 0 ∧ Aside (Below w.heap.size w wr))
    case atStart => exact ⟨rfl, Below.refl _ w⟩
    case round =>
      obtain ⟨rfl, BW⟩ := hrel
      go_wp2
      go_ret
      exact ⟨rfl, BW.out⟩
  obtain ⟨b, off, rfl, hb, hc⟩ := hr h0
  clear hr h0
  go_enter Tryz.func147, Tryz.ntmps147
  go_wp2
  go_loopg [5, 8] n (fun gg _ s8 wr => ∃ kk : Nat, kk ≤ n ∧ n - kk ≤ gg ∧ s8 = .int .i64 kk ∧ Aside (Below w.heap.size w wr) ∧ Aside (∀ j, j < kk → p j = false))
  case atStart => exact ⟨0, Nat.zero_le _, by omega, rfl, Below.refl _ w, fun j hj => absurd hj (Nat.not_lt_zero _)⟩
  case round =>
    obtain ⟨kk, hkk, hg, rfl, BW, A⟩ := hrel
    by_cases hlt : kk < n
    · have hltz : (kk : Int) < (n : Int) := by omega
      have h0 : wr.cell? ⟨b, off + kk * 5, none⟩ = some (c kk 0) := (BW.out.cell (p := ⟨b, off + kk * 5, none⟩) hb).trans (hc kk 0 hlt (by omega))
      have h1 : wr.cell? ⟨b, off + kk * 5 + 1, none⟩ = some (c kk 1) := (BW.out.cell (p := ⟨b, off + kk * 5 + 1, none⟩) hb).trans (hc kk 1 hlt (by omega))
      have h2 : wr.cell? ⟨b, off + kk * 5 + 2, none⟩ = some (c kk 2) := (BW.out.cell (p := ⟨b, off + kk * 5 + 2, none⟩) hb).trans (hc kk 2 hlt (by omega))
      have h3 : wr.cell? ⟨b, off + kk * 5 + 3, none⟩ = some (c kk 3) := (BW.out.cell (p := ⟨b, off + kk * 5 + 3, none⟩) hb).trans (hc kk 3 hlt (by omega))
      have h4 : wr.cell? ⟨b, off + kk * 5 + 4, none⟩ = some (c kk 4) := (BW.out.cell (p := ⟨b, off + kk * 5 + 4, none⟩) hb).trans (hc kk 4 hlt (by omega))
      have hcall := hp kk wr hlt BW.out
      clear hp hc
      cases hq : p kk with
      | true =>
        rw [hq] at hcall
        go_wp2_with (fail)
        refine hcall.mono ?_
        rintro e w' ⟨rfl, hb'⟩
        go_wp2
        go_ret
        exact ⟨by rw [firstIdx_hit hlt A.out hq]; rfl, BW.out.trans (hb'.mono BW.out.size)⟩
      | false =>
        rw [hq] at hcall
        go_wp2_with (fail)
        refine hcall.mono ?_
        rintro e w' ⟨rfl, hb'⟩
        go_wp2
        go_roundg (n - (kk + 1))
        case measure => omega
        case rel =>
          refine ⟨kk + 1, by omega, by omega, by go_num, (show Aside _ from BW.out.trans (hb'.mono BW.out.size)), (show Aside _ from fun j hj => ?_)⟩
          by_cases e : j = kk
          · subst e
            exact hq
          · exact A.out j (by omega)
    · have hltz : ¬ (kk : Int) < (n : Int) := by omega
      have : kk = n := by omega
      subst this
      go_wp2
      go_ret
      exact ⟨by rw [firstIdx_miss A.out]; rfl, BW.out⟩

set_option maxHeartbeats 1000000 in
set_option maxRecDepth 100000 in
theorem indexFuncDecided (g : Nat) (fi lb : Array Value) (eg : ∀ args w, (callFunc g args).run Tryz.prog w = .ok (.enter g args) w) (A : Option Addr) (n cap : Nat) (c : Nat → Nat → Value) (p : Nat → Bool) (w : World)
    (hr : RowCells w A n 4 c)
    (hp : ∀ j W, j < n → Below w.heap.size w W → Calls Tryz.prog g (fi ++ #[.agg #[c j 0, c j 1, c j 2, c j 3]] ++ lb) W fun e w' => e = .returned (.bool (p j)) ∧ Below W.heap.size W w') :
    Calls Tryz.prog 78 #[.slice A n cap, .func (.func g) fi lb] w fun e w' => e = .returned (.int .i64 (firstIdx p n)) ∧ Below w.heap.size w w' := by
  obtain ⟨hn, hr⟩ := hr
  rcases Nat.eq_zero_or_pos n with h0 | h0
  · subst h0
    go_enter Tryz.func78, Tryz.ntmps78
    go_wp2
    go_loopg [5, 8] 0 (fun gg _ s8 wr => s8 = .int .i64 0 ∧ Aside (Below w.heap.size w wr))
    case atStart => exact ⟨rfl, Below.refl _ w⟩
    case round =>
      obtain ⟨rfl, BW⟩ := hrel
      go_wp2
      go_ret
      exact ⟨rfl, BW.out⟩
  obtain ⟨b, off, rfl, hb, hc⟩ := hr h0
  clear hr h0
  go_enter Tryz.func78, Tryz.ntmps78
  go_wp2
  go_loopg [5, 8] n (fun gg _ s8 wr => ∃ kk : Nat, kk ≤ n ∧ n - kk ≤ gg ∧ s8 = .int .i64 kk ∧ Aside (Below w.heap.size w wr) ∧ Aside (∀ j, j < kk → p j = false))
  case atStart => exact ⟨0, Nat.zero_le _, by omega, rfl, Below.refl _ w, fun j hj => absurd hj (Nat.not_lt_zero _)⟩
  case round =>
    obtain ⟨kk, hkk, hg, rfl, BW, A⟩ := hrel
    by_cases hlt : kk < n
    · have hltz : (kk : Int) < (n : Int) := by omega
      have h0 : wr.cell? ⟨b, off + kk * 4, none⟩ = some (c kk 0) := (BW.out.cell (p := ⟨b, off + kk * 4, none⟩) hb).trans (hc kk 0 hlt (by omega))
      have h1 : wr.cell? ⟨b, off + kk * 4 + 1, none⟩ = some (c kk 1) := (BW.out.cell (p := ⟨b, off + kk * 4 + 1, none⟩) hb).trans (hc kk 1 hlt (by omega))
      have h2 : wr.cell? ⟨b, off + kk * 4 + 2, none⟩ = some (c kk 2) := (BW.out.cell (p := ⟨b, off + kk * 4 + 2, none⟩) hb).trans (hc kk 2 hlt (by omega))
      have h3 : wr.cell? ⟨b, off + kk * 4 + 3, none⟩ = some (c kk 3) := (BW.out.cell (p := ⟨b, off + kk * 4 + 3, none⟩) hb).trans (hc kk 3 hlt (by omega))
      have hcall := hp kk wr hlt BW.out
      clear hp hc
      cases hq : p kk with
      | true =>
        rw [hq] at hcall
        go_wp2_with (fail)
        refine hcall.mono ?_
        rintro e w' ⟨rfl, hb'⟩
        go_wp2
        go_ret
        exact ⟨by rw [firstIdx_hit hlt A.out hq]; rfl, BW.out.trans (hb'.mono BW.out.size)⟩
      | false =>
        rw [hq] at hcall
        go_wp2_with (fail)
        refine hcall.mono ?_
        rintro e w' ⟨rfl, hb'⟩
        go_wp2
        go_roundg (n - (kk + 1))
        case measure => omega
        case rel =>
          refine ⟨kk + 1, by omega, by omega, by go_num, (show Aside _ from BW.out.trans (hb'.mono BW.out.size)), (show Aside _ from fun j hj => ?_)⟩
          by_cases e : j = kk
          · subst e
            exact hq
          · exact A.out j (by omega)
    · have hltz : ¬ (kk : Int) < (n : Int) := by omega
      have : kk = n := by omega
      subst this
      go_wp2
      go_ret
      exact ⟨by rw [firstIdx_miss A.out]; rfl, BW.out⟩

set_option maxHeartbeats 1000000 in
set_option maxRecDepth 100000 in
theorem indexFuncCmt (g : Nat) (fi lb : Array Value) (eg : ∀ args w, (callFunc g args).run Tryz.prog w = .ok (.enter g args) w) (A : Option Addr) (n cap : Nat) (c : Nat → Nat → Value) (p : Nat → Bool) (w : World)
    (hr : RowCells w A n 6 c)
    (hp : ∀ j W, j < n → Below w.heap.size w W → Calls Tryz.prog g (fi ++ #[.agg #[c j 0, c j 1, c j 2, c j 3, c j 4, c j 5]] ++ lb) W fun e w' => e = .returned (.bool (p j)) ∧ Below W.heap.size W w') :
    Calls Tryz.prog 56 #[.slice A n cap, .func (.func g) fi lb] w fun e w' => e = .returned (.int .i64 (firstIdx p n)) ∧ Below w.heap.size w w' := by
  obtain ⟨hn, hr⟩ := hr
  rcases Nat.eq_zero_or_pos n with h0 | h0
  · subst h0
    go_enter Tryz.func56, Tryz.ntmps56
    go_wp2
    go_loopg [5, 8] 0 (fun gg _ s8 wr => s8 = .int .i64 0 ∧ Aside (Below w.heap.size w wr))
    case atStart => exact ⟨rfl, Below.refl _ w⟩
    case round =>
      obtain ⟨rfl, BW⟩ := hrel
      go_wp2
      go_ret
      exact ⟨rfl, BW.out⟩
  obtain ⟨b, off, rfl, hb, hc⟩ := hr h0
  clear hr h0
  go_enter Tryz.func56, Tryz.ntmps56
  go_wp2
  go_loopg [5, 8] n (fun gg _ s8 wr => ∃ kk : Nat, kk ≤ n ∧ n - kk ≤ gg ∧ s8 = .int .i64 kk ∧ Aside (Below w.heap.size w wr) ∧ Aside (∀ j, j < kk → p j = false))
  case atStart => exact ⟨0, Nat.zero_le _, by omega, rfl, Below.refl _ w, fun j hj => absurd hj (Nat.not_lt_zero _)⟩
  case round =>
    obtain ⟨kk, hkk, hg, rfl, BW, A⟩ := hrel
    by_cases hlt : kk < n
    · have hltz : (kk : Int) < (n : Int) := by omega
      have h0 : wr.cell? ⟨b, off + kk * 6, none⟩ = some (c kk 0) := (BW.out.cell (p := ⟨b, off + kk * 6, none⟩) hb).trans (hc kk 0 hlt (by omega))
      have h1 : wr.cell? ⟨b, off + kk * 6 + 1, none⟩ = some (c kk 1) := (BW.out.cell (p := ⟨b, off + kk * 6 + 1, none⟩) hb).trans (hc kk 1 hlt (by omega))
      have h2 : wr.cell? ⟨b, off + kk * 6 + 2, none⟩ = some (c kk 2) := (BW.out.cell (p := ⟨b, off + kk * 6 + 2, none⟩) hb).trans (hc kk 2 hlt (by omega))
      have h3 : wr.cell? ⟨b, off + kk * 6 + 3, none⟩ = some (c kk 3) := (BW.out.cell (p := ⟨b, off + kk * 6 + 3, none⟩) hb).trans (hc kk 3 hlt (by omega))
      have h4 : wr.cell? ⟨b, off + kk * 6 + 4, none⟩ = some (c kk 4) := (BW.out.cell (p := ⟨b, off + kk * 6 + 4, none⟩) hb).trans (hc kk 4 hlt (by omega))
      have h5 : wr.cell? ⟨b, off + kk * 6 + 5, none⟩ = some (c kk 5) := (BW.out.cell (p := ⟨b, off + kk * 6 + 5, none⟩) hb).trans (hc kk 5 hlt (by omega))
      have hcall := hp kk wr hlt BW.out
      clear hp hc
      cases hq : p kk with
      | true =>
        rw [hq] at hcall
        go_wp2_with (fail)
        refine hcall.mono ?_
        rintro e w' ⟨rfl, hb'⟩
        go_wp2
        go_ret
        exact ⟨by rw [firstIdx_hit hlt A.out hq]; rfl, BW.out.trans (hb'.mono BW.out.size)⟩
      | false =>
        rw [hq] at hcall
        go_wp2_with (fail)
        refine hcall.mono ?_
        rintro e w' ⟨rfl, hb'⟩
        go_wp2
        go_roundg (n - (kk + 1))
        case measure => omega
        case rel =>
          refine ⟨kk + 1, by omega, by omega, by go_num, (show Aside _ from BW.out.trans (hb'.mono BW.out.size)), (show Aside _ from fun j hj => ?_)⟩
          by_cases e : j = kk
          · subst e
            exact hq
          · exact A.out j (by omega)
    · have hltz : ¬ (kk : Int) < (n : Int) := by omega
      have : kk = n := by omega
      subst this
      go_wp2
      go_ret
      exact ⟨by rw [firstIdx_miss A.out]; rfl, BW.out⟩

set_option maxHeartbeats 1000000 in
theorem containsFuncInt (g : Nat) (fi lb : Array Value) (eg : ∀ args w, (callFunc g args).run Tryz.prog w = .ok (.enter g args) w) (A : Option Addr) (n cap : Nat) (c : Nat → Nat → Value) (p : Nat → Bool) (w : World)
    (hr : RowCells w A n 1 c)
    (hp : ∀ j W, j < n → Below w.heap.size w W → Calls Tryz.prog g (fi ++ #[c j 0] ++ lb) W fun e w' => e = .returned (.bool (p j)) ∧ Below W.heap.size W w') :
    Calls Tryz.prog 81 #[.slice A n cap, .func (.func g) fi lb] w fun e w' => e = .returned (.bool (anyIdx p n)) ∧ Below w.heap.size w w' := by
  have hcall := indexFuncInt g fi lb eg A n cap c p w hr hp
  clear hp hr
  unfold anyIdx
  generalize firstIdx p n = r at hcall ⊢
  go_enter Tryz.func81, Tryz.ntmps81
  go_wp2_with (fail)
  refine hcall.mono ?_
  rintro e w' ⟨rfl, hb'⟩
  go_wp2
  go_ret
  exact ⟨rfl, hb'⟩

set_option maxHeartbeats 1000000 in
theorem containsFuncItem (g : Nat) (fi lb : Array Value) (eg : ∀ args w, (callFunc g args).run Tryz.prog w = .ok (.enter g args) w) (A : Option Addr) (n cap : Nat) (c : Nat → Nat → Value) (p : Nat → Bool) (w : World)
    (hr : RowCells w A n 5 c)
    (hp : ∀ j W, j < n → Below w.heap.size w W → Calls Tryz.prog g (fi ++ #[.agg #[c j 0, c j 1, c j 2, c j 3, c j 4]] ++ lb) W fun e w' => e = .returned (.bool (p j)) ∧ Below W.heap.size W w') :
    Calls Tryz.prog 42 #[.slice A n cap, .func (.func g) fi lb] w fun e w' => e = .returned (.bool (anyIdx p n)) ∧ Below w.heap.size w w' := by
  have hcall := indexFuncItem g fi lb eg A n cap c p w hr hp
  clear hp hr
  unfold anyIdx
  generalize firstIdx p n = r at hcall ⊢
  go_enter Tryz.func42, Tryz.ntmps42
  go_wp2_with (fail)
  refine hcall.mono ?_
  rintro e w' ⟨rfl, hb'⟩
  go_wp2
  go_ret
  exact ⟨rfl, hb'⟩

set_option maxHeartbeats 1000000 in
theorem containsFuncPrepared (g : Nat) (fi lb : Array Value) (eg : ∀ args w, (callFunc g args).run Tryz.prog w = .ok (.enter g args) w) (A : Option Addr) (n cap : Nat) (c : Nat → Nat → Value) (p : Nat → Bool) (w : World)
    (hr : RowCells w A n 5 c)
    (hp : ∀ j W, j < n → Below w.heap.size w W → Calls Tryz.prog g (fi ++ #[.agg #[c j 0, c j 1, c j 2, c j 3, c j 4]] ++ lb) W fun e w' => e = .returned (.bool (p j)) ∧ Below W.heap.size W w') :
    Calls Tryz.prog 124 #[.slice A n cap, .func (.func g) fi lb] w fun e w' => e = .returned (.bool (anyIdx p n)) ∧ Below w.heap.size w w' := by
  have hcall := indexFuncPrepared g fi lb eg A n cap c p w hr hp
  clear hp hr
  unfold anyIdx
  generalize firstIdx p n = r at hcall ⊢
  go_enter Tryz.func124, Tryz.ntmps124
  go_wp2_with (fail)
  refine hcall.mono ?_
  rintro e w' ⟨rfl, hb'⟩
  go_wp2
  go_ret
  exact ⟨rfl, hb'⟩

end Go.Proofs.YtghfjgacnbcclaaGreat
