/- Lean structures of the program's data and how their cells read. By wip/gen_kinds.py. -/
import Derived.Test.YtghfjgacnbcclaaGreatProg
import Derived.Test.YtghfjgacnbcclaaGreatWWords
namespace Go.Proofs.YtghfjgacnbcclaaGreat
open Go.RowKit Go.Proofs.YtghfjgacnbcclaaGreatW.PrintWords
/-- Element i of a row that is read: block and offset. -/
theorem Kd_at {α : Type} {d : Kd α} {w : World} {A : Option Addr} {n : Nat} {xs : List α} (h : d.C w A n xs) (z : α) (i : Nat) (h1 : i < n) (hs : 0 < d.sz) :
    ∃ b o c, A = some ⟨b, o, none⟩ ∧ b < w.heap.size ∧ d.K w (xs.getD i z) c ∧ ∀ j u, c[j]? = some u → w.cell? ⟨b, o + i * d.sz + j, none⟩ = some u := by
  obtain ⟨ad, c, e, hl, hK, hc⟩ := Kd.C_get h z (i : Int) (by omega) (by omega)
  simp only [Int.toNat_natCast] at hK hc
  have hlen := d.K_len hK
  have h0 := hc 0 c[0] (by simp [List.getElem?_eq_getElem (show 0 < c.length by omega)])
  obtain ⟨ad0, c0, e0, hl0, hK0, hc0⟩ := Kd.C_get h z (0 : Int) (by omega) (by omega)
  have hlen0 := d.K_len hK0
  have h00 := hc0 0 c0[0] (by simp [List.getElem?_eq_getElem (show 0 < c0.length by omega)])
  have e1 : ad0 = ad := by rw [e] at e0; exact (Option.some.inj e0).symm
  subst e1
  obtain ⟨b, o, sp⟩ := ad0
  have hsp : sp = none := by
    cases sp with
    | none => rfl
    | some q =>
      exfalso
      have e2 : ((⟨b, o, some q⟩ : Addr).add ((0 : Int).toNat * d.sz + 0)) = ⟨b, o, some q⟩ := by simp [Addr.add]
      rw [e2] at h00
      unfold World.cell? at h00
      split at h00
      · simp at h00
      · cases h00
  subst hsp
  have hadd : ∀ j, (⟨b, o, none⟩ : Addr).add j = ⟨b, o + j, none⟩ := fun j => by unfold Addr.add; split <;> simp_all
  refine ⟨b, o, c, e, ?_, hK, fun j u hj => ?_⟩
  · have := World.block_lt_of_cell? w _ h0
    rwa [hadd] at this
  · have := hc j u hj
    rw [hadd] at this
    rwa [Nat.add_assoc]
/-! #### Tid -/
structure Tid where
  node : Int
  epoch : Int
  seq : Int
def Tid.z : Tid := ⟨(0 : Int), (0 : Int), (0 : Int)⟩
instance : DecidableEq Tid := fun a b => if h : a.node = b.node ∧ a.epoch = b.epoch ∧ a.seq = b.seq then isTrue (by cases a; cases b; simp_all) else isFalse (by rintro rfl; exact h (by simp))
def kTid : Kd Tid := Kd.iso (Kd.pair (Kd.int .i64) (Kd.pair (Kd.int .i64) (Kd.int .i64))) (fun x : Tid => (x.node, x.epoch, x.seq))
theorem kTid_open {w : World} {x : Tid} {cs : List Value} (h : kTid.K w x cs) : cs = [.int .i64 x.node, .int .i64 x.epoch, .int .i64 x.seq] := by
  obtain ⟨_, _, rfl, rfl, ⟨_, _, rfl, rfl, rfl⟩⟩ := h
  exact rfl
theorem kTid_openM {w : World} {base : Nat} {ok : Nat → Prop} {x : Tid} {cs : List Value} (h : kTid.M w base ok x cs) : cs = [.int .i64 x.node, .int .i64 x.epoch, .int .i64 x.seq] := by
  obtain ⟨_, _, rfl, rfl, ⟨_, _, rfl, rfl, rfl⟩⟩ := h
  exact rfl
theorem kTid_mk (w : World) (x : Tid)  : kTid.K w x [.int .i64 x.node, .int .i64 x.epoch, .int .i64 x.seq] := ⟨[.int .i64 x.node], [.int .i64 x.epoch, .int .i64 x.seq], rfl, rfl, ⟨[.int .i64 x.epoch], [.int .i64 x.seq], rfl, rfl, rfl⟩⟩
theorem kTid_mkM (w : World) (base : Nat) (ok : Nat → Prop) (x : Tid)  : kTid.M w base ok x [.int .i64 x.node, .int .i64 x.epoch, .int .i64 x.seq] := ⟨[.int .i64 x.node], [.int .i64 x.epoch, .int .i64 x.seq], rfl, rfl, ⟨[.int .i64 x.epoch], [.int .i64 x.seq], rfl, rfl, rfl⟩⟩
theorem kTid_sz : kTid.sz = 3 := rfl
theorem kTid_at {w : World} {A : Option Addr} {n : Nat} {xs : List Tid} (h : Kd.C kTid w A n xs) (i : Nat) (h1 : i < n) : ∃ b o , A = some ⟨b, o, none⟩ ∧ b < w.heap.size ∧ w.cell? ⟨b, o + i * 3, none⟩ = some (.int .i64 (xs.getD i Tid.z).node) ∧ w.cell? ⟨b, o + i * 3 + 1, none⟩ = some (.int .i64 (xs.getD i Tid.z).epoch) ∧ w.cell? ⟨b, o + i * 3 + 2, none⟩ = some (.int .i64 (xs.getD i Tid.z).seq) := by
  obtain ⟨b, o, c, e, hlt, hK, hc⟩ := Kd_at h Tid.z i h1 (by rw [kTid_sz]; omega)
  rw [kTid_sz] at hc
  obtain rfl := kTid_open hK
  exact ⟨b, o, e, hlt, hc 0 _ rfl, hc 1 _ rfl, hc 2 _ rfl⟩

/-! #### Item -/
structure Item where
  cell : Int
  version : Int
  value : Int
  write : Bool
  new : Int
def Item.z : Item := ⟨(0 : Int), (0 : Int), (0 : Int), false, (0 : Int)⟩
instance : DecidableEq Item := fun a b => if h : a.cell = b.cell ∧ a.version = b.version ∧ a.value = b.value ∧ a.write = b.write ∧ a.new = b.new then isTrue (by cases a; cases b; simp_all) else isFalse (by rintro rfl; exact h (by simp))
def kItem : Kd Item := Kd.iso (Kd.pair (Kd.int .i64) (Kd.pair (Kd.int .i64) (Kd.pair (Kd.int .i64) (Kd.pair Kd.bool (Kd.int .i64))))) (fun x : Item => (x.cell, x.version, x.value, x.write, x.new))
theorem kItem_open {w : World} {x : Item} {cs : List Value} (h : kItem.K w x cs) : cs = [.int .i64 x.cell, .int .i64 x.version, .int .i64 x.value, .bool x.write, .int .i64 x.new] := by
  obtain ⟨_, _, rfl, rfl, ⟨_, _, rfl, rfl, ⟨_, _, rfl, rfl, ⟨_, _, rfl, rfl, rfl⟩⟩⟩⟩ := h
  exact rfl
theorem kItem_openM {w : World} {base : Nat} {ok : Nat → Prop} {x : Item} {cs : List Value} (h : kItem.M w base ok x cs) : cs = [.int .i64 x.cell, .int .i64 x.version, .int .i64 x.value, .bool x.write, .int .i64 x.new] := by
  obtain ⟨_, _, rfl, rfl, ⟨_, _, rfl, rfl, ⟨_, _, rfl, rfl, ⟨_, _, rfl, rfl, rfl⟩⟩⟩⟩ := h
  exact rfl
theorem kItem_mk (w : World) (x : Item)  : kItem.K w x [.int .i64 x.cell, .int .i64 x.version, .int .i64 x.value, .bool x.write, .int .i64 x.new] := ⟨[.int .i64 x.cell], [.int .i64 x.version, .int .i64 x.value, .bool x.write, .int .i64 x.new], rfl, rfl, ⟨[.int .i64 x.version], [.int .i64 x.value, .bool x.write, .int .i64 x.new], rfl, rfl, ⟨[.int .i64 x.value], [.bool x.write, .int .i64 x.new], rfl, rfl, ⟨[.bool x.write], [.int .i64 x.new], rfl, rfl, rfl⟩⟩⟩⟩
theorem kItem_mkM (w : World) (base : Nat) (ok : Nat → Prop) (x : Item)  : kItem.M w base ok x [.int .i64 x.cell, .int .i64 x.version, .int .i64 x.value, .bool x.write, .int .i64 x.new] := ⟨[.int .i64 x.cell], [.int .i64 x.version, .int .i64 x.value, .bool x.write, .int .i64 x.new], rfl, rfl, ⟨[.int .i64 x.version], [.int .i64 x.value, .bool x.write, .int .i64 x.new], rfl, rfl, ⟨[.int .i64 x.value], [.bool x.write, .int .i64 x.new], rfl, rfl, ⟨[.bool x.write], [.int .i64 x.new], rfl, rfl, rfl⟩⟩⟩⟩
theorem kItem_sz : kItem.sz = 5 := rfl
theorem kItem_at {w : World} {A : Option Addr} {n : Nat} {xs : List Item} (h : Kd.C kItem w A n xs) (i : Nat) (h1 : i < n) : ∃ b o , A = some ⟨b, o, none⟩ ∧ b < w.heap.size ∧ w.cell? ⟨b, o + i * 5, none⟩ = some (.int .i64 (xs.getD i Item.z).cell) ∧ w.cell? ⟨b, o + i * 5 + 1, none⟩ = some (.int .i64 (xs.getD i Item.z).version) ∧ w.cell? ⟨b, o + i * 5 + 2, none⟩ = some (.int .i64 (xs.getD i Item.z).value) ∧ w.cell? ⟨b, o + i * 5 + 3, none⟩ = some (.bool (xs.getD i Item.z).write) ∧ w.cell? ⟨b, o + i * 5 + 4, none⟩ = some (.int .i64 (xs.getD i Item.z).new) := by
  obtain ⟨b, o, c, e, hlt, hK, hc⟩ := Kd_at h Item.z i h1 (by rw [kItem_sz]; omega)
  rw [kItem_sz] at hc
  obtain rfl := kItem_open hK
  exact ⟨b, o, e, hlt, hc 0 _ rfl, hc 1 _ rfl, hc 2 _ rfl, hc 3 _ rfl, hc 4 _ rfl⟩

/-! #### Place -/
structure Place where
  status : Int
  hop : Int
  dest : Int
  version : Int
  value : Int
def Place.z : Place := ⟨(0 : Int), (0 : Int), (0 : Int), (0 : Int), (0 : Int)⟩
instance : DecidableEq Place := fun a b => if h : a.status = b.status ∧ a.hop = b.hop ∧ a.dest = b.dest ∧ a.version = b.version ∧ a.value = b.value then isTrue (by cases a; cases b; simp_all) else isFalse (by rintro rfl; exact h (by simp))
def kPlace : Kd Place := Kd.iso (Kd.pair (Kd.int .i64) (Kd.pair (Kd.int .i64) (Kd.pair (Kd.int .i64) (Kd.pair (Kd.int .i64) (Kd.int .i64))))) (fun x : Place => (x.status, x.hop, x.dest, x.version, x.value))
theorem kPlace_open {w : World} {x : Place} {cs : List Value} (h : kPlace.K w x cs) : cs = [.int .i64 x.status, .int .i64 x.hop, .int .i64 x.dest, .int .i64 x.version, .int .i64 x.value] := by
  obtain ⟨_, _, rfl, rfl, ⟨_, _, rfl, rfl, ⟨_, _, rfl, rfl, ⟨_, _, rfl, rfl, rfl⟩⟩⟩⟩ := h
  exact rfl
theorem kPlace_openM {w : World} {base : Nat} {ok : Nat → Prop} {x : Place} {cs : List Value} (h : kPlace.M w base ok x cs) : cs = [.int .i64 x.status, .int .i64 x.hop, .int .i64 x.dest, .int .i64 x.version, .int .i64 x.value] := by
  obtain ⟨_, _, rfl, rfl, ⟨_, _, rfl, rfl, ⟨_, _, rfl, rfl, ⟨_, _, rfl, rfl, rfl⟩⟩⟩⟩ := h
  exact rfl
theorem kPlace_mk (w : World) (x : Place)  : kPlace.K w x [.int .i64 x.status, .int .i64 x.hop, .int .i64 x.dest, .int .i64 x.version, .int .i64 x.value] := ⟨[.int .i64 x.status], [.int .i64 x.hop, .int .i64 x.dest, .int .i64 x.version, .int .i64 x.value], rfl, rfl, ⟨[.int .i64 x.hop], [.int .i64 x.dest, .int .i64 x.version, .int .i64 x.value], rfl, rfl, ⟨[.int .i64 x.dest], [.int .i64 x.version, .int .i64 x.value], rfl, rfl, ⟨[.int .i64 x.version], [.int .i64 x.value], rfl, rfl, rfl⟩⟩⟩⟩
theorem kPlace_mkM (w : World) (base : Nat) (ok : Nat → Prop) (x : Place)  : kPlace.M w base ok x [.int .i64 x.status, .int .i64 x.hop, .int .i64 x.dest, .int .i64 x.version, .int .i64 x.value] := ⟨[.int .i64 x.status], [.int .i64 x.hop, .int .i64 x.dest, .int .i64 x.version, .int .i64 x.value], rfl, rfl, ⟨[.int .i64 x.hop], [.int .i64 x.dest, .int .i64 x.version, .int .i64 x.value], rfl, rfl, ⟨[.int .i64 x.dest], [.int .i64 x.version, .int .i64 x.value], rfl, rfl, ⟨[.int .i64 x.version], [.int .i64 x.value], rfl, rfl, rfl⟩⟩⟩⟩
theorem kPlace_sz : kPlace.sz = 5 := rfl
theorem kPlace_at {w : World} {A : Option Addr} {n : Nat} {xs : List Place} (h : Kd.C kPlace w A n xs) (i : Nat) (h1 : i < n) : ∃ b o , A = some ⟨b, o, none⟩ ∧ b < w.heap.size ∧ w.cell? ⟨b, o + i * 5, none⟩ = some (.int .i64 (xs.getD i Place.z).status) ∧ w.cell? ⟨b, o + i * 5 + 1, none⟩ = some (.int .i64 (xs.getD i Place.z).hop) ∧ w.cell? ⟨b, o + i * 5 + 2, none⟩ = some (.int .i64 (xs.getD i Place.z).dest) ∧ w.cell? ⟨b, o + i * 5 + 3, none⟩ = some (.int .i64 (xs.getD i Place.z).version) ∧ w.cell? ⟨b, o + i * 5 + 4, none⟩ = some (.int .i64 (xs.getD i Place.z).value) := by
  obtain ⟨b, o, c, e, hlt, hK, hc⟩ := Kd_at h Place.z i h1 (by rw [kPlace_sz]; omega)
  rw [kPlace_sz] at hc
  obtain rfl := kPlace_open hK
  exact ⟨b, o, e, hlt, hc 0 _ rfl, hc 1 _ rfl, hc 2 _ rfl, hc 3 _ rfl, hc 4 _ rfl⟩

/-! #### Decided -/
structure Decided where
  tid : Tid
  yes : Bool
def Decided.z : Decided := ⟨Tid.z, false⟩
instance : DecidableEq Decided := fun a b => if h : a.tid = b.tid ∧ a.yes = b.yes then isTrue (by cases a; cases b; simp_all) else isFalse (by rintro rfl; exact h (by simp))
def kDecided : Kd Decided := Kd.iso (Kd.pair kTid Kd.bool) (fun x : Decided => (x.tid, x.yes))
theorem kDecided_open {w : World} {x : Decided} {cs : List Value} (h : kDecided.K w x cs) : cs = [.int .i64 x.tid.node, .int .i64 x.tid.epoch, .int .i64 x.tid.seq, .bool x.yes] := by
  obtain ⟨_, _, rfl, s0, rfl⟩ := h
  obtain rfl := kTid_open s0
  exact rfl
theorem kDecided_openM {w : World} {base : Nat} {ok : Nat → Prop} {x : Decided} {cs : List Value} (h : kDecided.M w base ok x cs) : cs = [.int .i64 x.tid.node, .int .i64 x.tid.epoch, .int .i64 x.tid.seq, .bool x.yes] := by
  obtain ⟨_, _, rfl, s0, rfl⟩ := h
  obtain rfl := kTid_openM s0
  exact rfl
theorem kDecided_mk (w : World) (x : Decided)  : kDecided.K w x [.int .i64 x.tid.node, .int .i64 x.tid.epoch, .int .i64 x.tid.seq, .bool x.yes] := ⟨[.int .i64 x.tid.node, .int .i64 x.tid.epoch, .int .i64 x.tid.seq], [.bool x.yes], rfl, (kTid_mk w x.tid), rfl⟩
theorem kDecided_mkM (w : World) (base : Nat) (ok : Nat → Prop) (x : Decided)  : kDecided.M w base ok x [.int .i64 x.tid.node, .int .i64 x.tid.epoch, .int .i64 x.tid.seq, .bool x.yes] := ⟨[.int .i64 x.tid.node, .int .i64 x.tid.epoch, .int .i64 x.tid.seq], [.bool x.yes], rfl, (kTid_mkM w base ok x.tid), rfl⟩
theorem kDecided_sz : kDecided.sz = 4 := rfl
theorem kDecided_at {w : World} {A : Option Addr} {n : Nat} {xs : List Decided} (h : Kd.C kDecided w A n xs) (i : Nat) (h1 : i < n) : ∃ b o , A = some ⟨b, o, none⟩ ∧ b < w.heap.size ∧ w.cell? ⟨b, o + i * 4, none⟩ = some (.int .i64 (xs.getD i Decided.z).tid.node) ∧ w.cell? ⟨b, o + i * 4 + 1, none⟩ = some (.int .i64 (xs.getD i Decided.z).tid.epoch) ∧ w.cell? ⟨b, o + i * 4 + 2, none⟩ = some (.int .i64 (xs.getD i Decided.z).tid.seq) ∧ w.cell? ⟨b, o + i * 4 + 3, none⟩ = some (.bool (xs.getD i Decided.z).yes) := by
  obtain ⟨b, o, c, e, hlt, hK, hc⟩ := Kd_at h Decided.z i h1 (by rw [kDecided_sz]; omega)
  rw [kDecided_sz] at hc
  obtain rfl := kDecided_open hK
  exact ⟨b, o, e, hlt, hc 0 _ rfl, hc 1 _ rfl, hc 2 _ rfl, hc 3 _ rfl⟩

/-! #### Prepared -/
structure Prepared where
  tid : Tid
  items : (List Item)
  nodes : (List Int)
def Prepared.z : Prepared := ⟨Tid.z, ([] : List Item), ([] : List Int)⟩
def kPrepared : Kd Prepared := Kd.iso (Kd.pair kTid (Kd.pair (Kd.slice 38 kItem) (Kd.slice 3 (Kd.int .i64)))) (fun x : Prepared => (x.tid, x.items, x.nodes))
theorem kPrepared_open {w : World} {x : Prepared} {cs : List Value} (h : kPrepared.K w x cs) : ∃ A3 c3 A4 c4, cs = [.int .i64 x.tid.node, .int .i64 x.tid.epoch, .int .i64 x.tid.seq, .slice A3 x.items.length c3, .slice A4 x.nodes.length c4] ∧ x.items.length ≤ c3 ∧ kItem.C w A3 x.items.length x.items ∧ x.nodes.length ≤ c4 ∧ (Kd.int .i64).C w A4 x.nodes.length x.nodes := by
  obtain ⟨_, _, rfl, s0, ⟨_, _, rfl, ⟨A3, c3, rfl, l3, g3⟩, ⟨A4, c4, rfl, l4, g4⟩⟩⟩ := h
  obtain rfl := kTid_open s0
  exact ⟨A3, c3, A4, c4, rfl, l3, g3, l4, g4⟩
theorem kPrepared_openM {w : World} {base : Nat} {ok : Nat → Prop} {x : Prepared} {cs : List Value} (h : kPrepared.M w base ok x cs) : ∃ v3 v4, cs = [.int .i64 x.tid.node, .int .i64 x.tid.epoch, .int .i64 x.tid.seq, v3, v4] ∧ kItem.R 38 w base ok v3 x.items ∧ (Kd.int .i64).R 3 w base ok v4 x.nodes := by
  obtain ⟨_, _, rfl, s0, ⟨_, _, rfl, ⟨v3, rfl, g3⟩, ⟨v4, rfl, g4⟩⟩⟩ := h
  obtain rfl := kTid_openM s0
  exact ⟨v3, v4, rfl, g3, g4⟩
theorem kPrepared_mk (w : World) (x : Prepared) {A3 : Option Addr} {c3 : Nat} (l3 : x.items.length ≤ c3) (g3 : kItem.C w A3 x.items.length x.items) {A4 : Option Addr} {c4 : Nat} (l4 : x.nodes.length ≤ c4) (g4 : (Kd.int .i64).C w A4 x.nodes.length x.nodes) : kPrepared.K w x [.int .i64 x.tid.node, .int .i64 x.tid.epoch, .int .i64 x.tid.seq, .slice A3 x.items.length c3, .slice A4 x.nodes.length c4] := ⟨[.int .i64 x.tid.node, .int .i64 x.tid.epoch, .int .i64 x.tid.seq], [.slice A3 x.items.length c3, .slice A4 x.nodes.length c4], rfl, (kTid_mk w x.tid), ⟨[.slice A3 x.items.length c3], [.slice A4 x.nodes.length c4], rfl, ⟨A3, c3, rfl, l3, g3⟩, ⟨A4, c4, rfl, l4, g4⟩⟩⟩
theorem kPrepared_mkM (w : World) (base : Nat) (ok : Nat → Prop) (x : Prepared) {v3 : Value} (g3 : kItem.R 38 w base ok v3 x.items) {v4 : Value} (g4 : (Kd.int .i64).R 3 w base ok v4 x.nodes) : kPrepared.M w base ok x [.int .i64 x.tid.node, .int .i64 x.tid.epoch, .int .i64 x.tid.seq, v3, v4] := ⟨[.int .i64 x.tid.node, .int .i64 x.tid.epoch, .int .i64 x.tid.seq], [v3, v4], rfl, (kTid_mkM w base ok x.tid), ⟨[v3], [v4], rfl, ⟨v3, rfl, g3⟩, ⟨v4, rfl, g4⟩⟩⟩
theorem kPrepared_sz : kPrepared.sz = 5 := rfl
theorem kPrepared_at {w : World} {A : Option Addr} {n : Nat} {xs : List Prepared} (h : Kd.C kPrepared w A n xs) (i : Nat) (h1 : i < n) : ∃ b o A3 c3 A4 c4, A = some ⟨b, o, none⟩ ∧ b < w.heap.size ∧ w.cell? ⟨b, o + i * 5, none⟩ = some (.int .i64 (xs.getD i Prepared.z).tid.node) ∧ w.cell? ⟨b, o + i * 5 + 1, none⟩ = some (.int .i64 (xs.getD i Prepared.z).tid.epoch) ∧ w.cell? ⟨b, o + i * 5 + 2, none⟩ = some (.int .i64 (xs.getD i Prepared.z).tid.seq) ∧ w.cell? ⟨b, o + i * 5 + 3, none⟩ = some (.slice A3 (xs.getD i Prepared.z).items.length c3) ∧ w.cell? ⟨b, o + i * 5 + 4, none⟩ = some (.slice A4 (xs.getD i Prepared.z).nodes.length c4) ∧ (xs.getD i Prepared.z).items.length ≤ c3 ∧ kItem.C w A3 (xs.getD i Prepared.z).items.length (xs.getD i Prepared.z).items ∧ (xs.getD i Prepared.z).nodes.length ≤ c4 ∧ (Kd.int .i64).C w A4 (xs.getD i Prepared.z).nodes.length (xs.getD i Prepared.z).nodes := by
  obtain ⟨b, o, c, e, hlt, hK, hc⟩ := Kd_at h Prepared.z i h1 (by rw [kPrepared_sz]; omega)
  rw [kPrepared_sz] at hc
  obtain ⟨A3, c3, A4, c4, rfl, l3, g3, l4, g4⟩ := kPrepared_open hK
  exact ⟨b, o, A3, c3, A4, c4, e, hlt, hc 0 _ rfl, hc 1 _ rfl, hc 2 _ rfl, hc 3 _ rfl, hc 4 _ rfl, l3, g3, l4, g4⟩

/-! #### Cmt -/
structure Cmt where
  tid : Tid
  items : (List Item)
  nodes : (List Int)
  over : Bool
def Cmt.z : Cmt := ⟨Tid.z, ([] : List Item), ([] : List Int), false⟩
def kCmt : Kd Cmt := Kd.iso (Kd.pair kTid (Kd.pair (Kd.slice 38 kItem) (Kd.pair (Kd.slice 3 (Kd.int .i64)) Kd.bool))) (fun x : Cmt => (x.tid, x.items, x.nodes, x.over))
theorem kCmt_open {w : World} {x : Cmt} {cs : List Value} (h : kCmt.K w x cs) : ∃ A3 c3 A4 c4, cs = [.int .i64 x.tid.node, .int .i64 x.tid.epoch, .int .i64 x.tid.seq, .slice A3 x.items.length c3, .slice A4 x.nodes.length c4, .bool x.over] ∧ x.items.length ≤ c3 ∧ kItem.C w A3 x.items.length x.items ∧ x.nodes.length ≤ c4 ∧ (Kd.int .i64).C w A4 x.nodes.length x.nodes := by
  obtain ⟨_, _, rfl, s0, ⟨_, _, rfl, ⟨A3, c3, rfl, l3, g3⟩, ⟨_, _, rfl, ⟨A4, c4, rfl, l4, g4⟩, rfl⟩⟩⟩ := h
  obtain rfl := kTid_open s0
  exact ⟨A3, c3, A4, c4, rfl, l3, g3, l4, g4⟩
theorem kCmt_openM {w : World} {base : Nat} {ok : Nat → Prop} {x : Cmt} {cs : List Value} (h : kCmt.M w base ok x cs) : ∃ v3 v4, cs = [.int .i64 x.tid.node, .int .i64 x.tid.epoch, .int .i64 x.tid.seq, v3, v4, .bool x.over] ∧ kItem.R 38 w base ok v3 x.items ∧ (Kd.int .i64).R 3 w base ok v4 x.nodes := by
  obtain ⟨_, _, rfl, s0, ⟨_, _, rfl, ⟨v3, rfl, g3⟩, ⟨_, _, rfl, ⟨v4, rfl, g4⟩, rfl⟩⟩⟩ := h
  obtain rfl := kTid_openM s0
  exact ⟨v3, v4, rfl, g3, g4⟩
theorem kCmt_mk (w : World) (x : Cmt) {A3 : Option Addr} {c3 : Nat} (l3 : x.items.length ≤ c3) (g3 : kItem.C w A3 x.items.length x.items) {A4 : Option Addr} {c4 : Nat} (l4 : x.nodes.length ≤ c4) (g4 : (Kd.int .i64).C w A4 x.nodes.length x.nodes) : kCmt.K w x [.int .i64 x.tid.node, .int .i64 x.tid.epoch, .int .i64 x.tid.seq, .slice A3 x.items.length c3, .slice A4 x.nodes.length c4, .bool x.over] := ⟨[.int .i64 x.tid.node, .int .i64 x.tid.epoch, .int .i64 x.tid.seq], [.slice A3 x.items.length c3, .slice A4 x.nodes.length c4, .bool x.over], rfl, (kTid_mk w x.tid), ⟨[.slice A3 x.items.length c3], [.slice A4 x.nodes.length c4, .bool x.over], rfl, ⟨A3, c3, rfl, l3, g3⟩, ⟨[.slice A4 x.nodes.length c4], [.bool x.over], rfl, ⟨A4, c4, rfl, l4, g4⟩, rfl⟩⟩⟩
theorem kCmt_mkM (w : World) (base : Nat) (ok : Nat → Prop) (x : Cmt) {v3 : Value} (g3 : kItem.R 38 w base ok v3 x.items) {v4 : Value} (g4 : (Kd.int .i64).R 3 w base ok v4 x.nodes) : kCmt.M w base ok x [.int .i64 x.tid.node, .int .i64 x.tid.epoch, .int .i64 x.tid.seq, v3, v4, .bool x.over] := ⟨[.int .i64 x.tid.node, .int .i64 x.tid.epoch, .int .i64 x.tid.seq], [v3, v4, .bool x.over], rfl, (kTid_mkM w base ok x.tid), ⟨[v3], [v4, .bool x.over], rfl, ⟨v3, rfl, g3⟩, ⟨[v4], [.bool x.over], rfl, ⟨v4, rfl, g4⟩, rfl⟩⟩⟩
theorem kCmt_sz : kCmt.sz = 6 := rfl
theorem kCmt_at {w : World} {A : Option Addr} {n : Nat} {xs : List Cmt} (h : Kd.C kCmt w A n xs) (i : Nat) (h1 : i < n) : ∃ b o A3 c3 A4 c4, A = some ⟨b, o, none⟩ ∧ b < w.heap.size ∧ w.cell? ⟨b, o + i * 6, none⟩ = some (.int .i64 (xs.getD i Cmt.z).tid.node) ∧ w.cell? ⟨b, o + i * 6 + 1, none⟩ = some (.int .i64 (xs.getD i Cmt.z).tid.epoch) ∧ w.cell? ⟨b, o + i * 6 + 2, none⟩ = some (.int .i64 (xs.getD i Cmt.z).tid.seq) ∧ w.cell? ⟨b, o + i * 6 + 3, none⟩ = some (.slice A3 (xs.getD i Cmt.z).items.length c3) ∧ w.cell? ⟨b, o + i * 6 + 4, none⟩ = some (.slice A4 (xs.getD i Cmt.z).nodes.length c4) ∧ w.cell? ⟨b, o + i * 6 + 5, none⟩ = some (.bool (xs.getD i Cmt.z).over) ∧ (xs.getD i Cmt.z).items.length ≤ c3 ∧ kItem.C w A3 (xs.getD i Cmt.z).items.length (xs.getD i Cmt.z).items ∧ (xs.getD i Cmt.z).nodes.length ≤ c4 ∧ (Kd.int .i64).C w A4 (xs.getD i Cmt.z).nodes.length (xs.getD i Cmt.z).nodes := by
  obtain ⟨b, o, c, e, hlt, hK, hc⟩ := Kd_at h Cmt.z i h1 (by rw [kCmt_sz]; omega)
  rw [kCmt_sz] at hc
  obtain ⟨A3, c3, A4, c4, rfl, l3, g3, l4, g4⟩ := kCmt_open hK
  exact ⟨b, o, A3, c3, A4, c4, e, hlt, hc 0 _ rfl, hc 1 _ rfl, hc 2 _ rfl, hc 3 _ rfl, hc 4 _ rfl, hc 5 _ rfl, l3, g3, l4, g4⟩

/-! #### Rec -/
structure Rec where
  kind : Int
  tid : Tid
  items : (List Item)
  nodes : (List Int)
  node : Int
  count : Int
  num : Int
  cell : Int
  status : Int
  hop : Int
  version : Int
  value : Int
  yes : Bool
def Rec.z : Rec := ⟨(0 : Int), Tid.z, ([] : List Item), ([] : List Int), (0 : Int), (0 : Int), (0 : Int), (0 : Int), (0 : Int), (0 : Int), (0 : Int), (0 : Int), false⟩
def kRec : Kd Rec := Kd.iso (Kd.pair (Kd.int .i64) (Kd.pair kTid (Kd.pair (Kd.slice 38 kItem) (Kd.pair (Kd.slice 3 (Kd.int .i64)) (Kd.pair (Kd.int .i64) (Kd.pair (Kd.int .i64) (Kd.pair (Kd.int .i64) (Kd.pair (Kd.int .i64) (Kd.pair (Kd.int .i64) (Kd.pair (Kd.int .i64) (Kd.pair (Kd.int .i64) (Kd.pair (Kd.int .i64) Kd.bool)))))))))))) (fun x : Rec => (x.kind, x.tid, x.items, x.nodes, x.node, x.count, x.num, x.cell, x.status, x.hop, x.version, x.value, x.yes))
theorem kRec_open {w : World} {x : Rec} {cs : List Value} (h : kRec.K w x cs) : ∃ A4 c4 A5 c5, cs = [.int .i64 x.kind, .int .i64 x.tid.node, .int .i64 x.tid.epoch, .int .i64 x.tid.seq, .slice A4 x.items.length c4, .slice A5 x.nodes.length c5, .int .i64 x.node, .int .i64 x.count, .int .i64 x.num, .int .i64 x.cell, .int .i64 x.status, .int .i64 x.hop, .int .i64 x.version, .int .i64 x.value, .bool x.yes] ∧ x.items.length ≤ c4 ∧ kItem.C w A4 x.items.length x.items ∧ x.nodes.length ≤ c5 ∧ (Kd.int .i64).C w A5 x.nodes.length x.nodes := by
  obtain ⟨_, _, rfl, rfl, ⟨_, _, rfl, s1, ⟨_, _, rfl, ⟨A4, c4, rfl, l4, g4⟩, ⟨_, _, rfl, ⟨A5, c5, rfl, l5, g5⟩, ⟨_, _, rfl, rfl, ⟨_, _, rfl, rfl, ⟨_, _, rfl, rfl, ⟨_, _, rfl, rfl, ⟨_, _, rfl, rfl, ⟨_, _, rfl, rfl, ⟨_, _, rfl, rfl, ⟨_, _, rfl, rfl, rfl⟩⟩⟩⟩⟩⟩⟩⟩⟩⟩⟩⟩ := h
  obtain rfl := kTid_open s1
  exact ⟨A4, c4, A5, c5, rfl, l4, g4, l5, g5⟩
theorem kRec_openM {w : World} {base : Nat} {ok : Nat → Prop} {x : Rec} {cs : List Value} (h : kRec.M w base ok x cs) : ∃ v4 v5, cs = [.int .i64 x.kind, .int .i64 x.tid.node, .int .i64 x.tid.epoch, .int .i64 x.tid.seq, v4, v5, .int .i64 x.node, .int .i64 x.count, .int .i64 x.num, .int .i64 x.cell, .int .i64 x.status, .int .i64 x.hop, .int .i64 x.version, .int .i64 x.value, .bool x.yes] ∧ kItem.R 38 w base ok v4 x.items ∧ (Kd.int .i64).R 3 w base ok v5 x.nodes := by
  obtain ⟨_, _, rfl, rfl, ⟨_, _, rfl, s1, ⟨_, _, rfl, ⟨v4, rfl, g4⟩, ⟨_, _, rfl, ⟨v5, rfl, g5⟩, ⟨_, _, rfl, rfl, ⟨_, _, rfl, rfl, ⟨_, _, rfl, rfl, ⟨_, _, rfl, rfl, ⟨_, _, rfl, rfl, ⟨_, _, rfl, rfl, ⟨_, _, rfl, rfl, ⟨_, _, rfl, rfl, rfl⟩⟩⟩⟩⟩⟩⟩⟩⟩⟩⟩⟩ := h
  obtain rfl := kTid_openM s1
  exact ⟨v4, v5, rfl, g4, g5⟩
theorem kRec_mk (w : World) (x : Rec) {A4 : Option Addr} {c4 : Nat} (l4 : x.items.length ≤ c4) (g4 : kItem.C w A4 x.items.length x.items) {A5 : Option Addr} {c5 : Nat} (l5 : x.nodes.length ≤ c5) (g5 : (Kd.int .i64).C w A5 x.nodes.length x.nodes) : kRec.K w x [.int .i64 x.kind, .int .i64 x.tid.node, .int .i64 x.tid.epoch, .int .i64 x.tid.seq, .slice A4 x.items.length c4, .slice A5 x.nodes.length c5, .int .i64 x.node, .int .i64 x.count, .int .i64 x.num, .int .i64 x.cell, .int .i64 x.status, .int .i64 x.hop, .int .i64 x.version, .int .i64 x.value, .bool x.yes] := ⟨[.int .i64 x.kind], [.int .i64 x.tid.node, .int .i64 x.tid.epoch, .int .i64 x.tid.seq, .slice A4 x.items.length c4, .slice A5 x.nodes.length c5, .int .i64 x.node, .int .i64 x.count, .int .i64 x.num, .int .i64 x.cell, .int .i64 x.status, .int .i64 x.hop, .int .i64 x.version, .int .i64 x.value, .bool x.yes], rfl, rfl, ⟨[.int .i64 x.tid.node, .int .i64 x.tid.epoch, .int .i64 x.tid.seq], [.slice A4 x.items.length c4, .slice A5 x.nodes.length c5, .int .i64 x.node, .int .i64 x.count, .int .i64 x.num, .int .i64 x.cell, .int .i64 x.status, .int .i64 x.hop, .int .i64 x.version, .int .i64 x.value, .bool x.yes], rfl, (kTid_mk w x.tid), ⟨[.slice A4 x.items.length c4], [.slice A5 x.nodes.length c5, .int .i64 x.node, .int .i64 x.count, .int .i64 x.num, .int .i64 x.cell, .int .i64 x.status, .int .i64 x.hop, .int .i64 x.version, .int .i64 x.value, .bool x.yes], rfl, ⟨A4, c4, rfl, l4, g4⟩, ⟨[.slice A5 x.nodes.length c5], [.int .i64 x.node, .int .i64 x.count, .int .i64 x.num, .int .i64 x.cell, .int .i64 x.status, .int .i64 x.hop, .int .i64 x.version, .int .i64 x.value, .bool x.yes], rfl, ⟨A5, c5, rfl, l5, g5⟩, ⟨[.int .i64 x.node], [.int .i64 x.count, .int .i64 x.num, .int .i64 x.cell, .int .i64 x.status, .int .i64 x.hop, .int .i64 x.version, .int .i64 x.value, .bool x.yes], rfl, rfl, ⟨[.int .i64 x.count], [.int .i64 x.num, .int .i64 x.cell, .int .i64 x.status, .int .i64 x.hop, .int .i64 x.version, .int .i64 x.value, .bool x.yes], rfl, rfl, ⟨[.int .i64 x.num], [.int .i64 x.cell, .int .i64 x.status, .int .i64 x.hop, .int .i64 x.version, .int .i64 x.value, .bool x.yes], rfl, rfl, ⟨[.int .i64 x.cell], [.int .i64 x.status, .int .i64 x.hop, .int .i64 x.version, .int .i64 x.value, .bool x.yes], rfl, rfl, ⟨[.int .i64 x.status], [.int .i64 x.hop, .int .i64 x.version, .int .i64 x.value, .bool x.yes], rfl, rfl, ⟨[.int .i64 x.hop], [.int .i64 x.version, .int .i64 x.value, .bool x.yes], rfl, rfl, ⟨[.int .i64 x.version], [.int .i64 x.value, .bool x.yes], rfl, rfl, ⟨[.int .i64 x.value], [.bool x.yes], rfl, rfl, rfl⟩⟩⟩⟩⟩⟩⟩⟩⟩⟩⟩⟩
theorem kRec_mkM (w : World) (base : Nat) (ok : Nat → Prop) (x : Rec) {v4 : Value} (g4 : kItem.R 38 w base ok v4 x.items) {v5 : Value} (g5 : (Kd.int .i64).R 3 w base ok v5 x.nodes) : kRec.M w base ok x [.int .i64 x.kind, .int .i64 x.tid.node, .int .i64 x.tid.epoch, .int .i64 x.tid.seq, v4, v5, .int .i64 x.node, .int .i64 x.count, .int .i64 x.num, .int .i64 x.cell, .int .i64 x.status, .int .i64 x.hop, .int .i64 x.version, .int .i64 x.value, .bool x.yes] := ⟨[.int .i64 x.kind], [.int .i64 x.tid.node, .int .i64 x.tid.epoch, .int .i64 x.tid.seq, v4, v5, .int .i64 x.node, .int .i64 x.count, .int .i64 x.num, .int .i64 x.cell, .int .i64 x.status, .int .i64 x.hop, .int .i64 x.version, .int .i64 x.value, .bool x.yes], rfl, rfl, ⟨[.int .i64 x.tid.node, .int .i64 x.tid.epoch, .int .i64 x.tid.seq], [v4, v5, .int .i64 x.node, .int .i64 x.count, .int .i64 x.num, .int .i64 x.cell, .int .i64 x.status, .int .i64 x.hop, .int .i64 x.version, .int .i64 x.value, .bool x.yes], rfl, (kTid_mkM w base ok x.tid), ⟨[v4], [v5, .int .i64 x.node, .int .i64 x.count, .int .i64 x.num, .int .i64 x.cell, .int .i64 x.status, .int .i64 x.hop, .int .i64 x.version, .int .i64 x.value, .bool x.yes], rfl, ⟨v4, rfl, g4⟩, ⟨[v5], [.int .i64 x.node, .int .i64 x.count, .int .i64 x.num, .int .i64 x.cell, .int .i64 x.status, .int .i64 x.hop, .int .i64 x.version, .int .i64 x.value, .bool x.yes], rfl, ⟨v5, rfl, g5⟩, ⟨[.int .i64 x.node], [.int .i64 x.count, .int .i64 x.num, .int .i64 x.cell, .int .i64 x.status, .int .i64 x.hop, .int .i64 x.version, .int .i64 x.value, .bool x.yes], rfl, rfl, ⟨[.int .i64 x.count], [.int .i64 x.num, .int .i64 x.cell, .int .i64 x.status, .int .i64 x.hop, .int .i64 x.version, .int .i64 x.value, .bool x.yes], rfl, rfl, ⟨[.int .i64 x.num], [.int .i64 x.cell, .int .i64 x.status, .int .i64 x.hop, .int .i64 x.version, .int .i64 x.value, .bool x.yes], rfl, rfl, ⟨[.int .i64 x.cell], [.int .i64 x.status, .int .i64 x.hop, .int .i64 x.version, .int .i64 x.value, .bool x.yes], rfl, rfl, ⟨[.int .i64 x.status], [.int .i64 x.hop, .int .i64 x.version, .int .i64 x.value, .bool x.yes], rfl, rfl, ⟨[.int .i64 x.hop], [.int .i64 x.version, .int .i64 x.value, .bool x.yes], rfl, rfl, ⟨[.int .i64 x.version], [.int .i64 x.value, .bool x.yes], rfl, rfl, ⟨[.int .i64 x.value], [.bool x.yes], rfl, rfl, rfl⟩⟩⟩⟩⟩⟩⟩⟩⟩⟩⟩⟩
theorem kRec_sz : kRec.sz = 15 := rfl
theorem kRec_at {w : World} {A : Option Addr} {n : Nat} {xs : List Rec} (h : Kd.C kRec w A n xs) (i : Nat) (h1 : i < n) : ∃ b o A4 c4 A5 c5, A = some ⟨b, o, none⟩ ∧ b < w.heap.size ∧ w.cell? ⟨b, o + i * 15, none⟩ = some (.int .i64 (xs.getD i Rec.z).kind) ∧ w.cell? ⟨b, o + i * 15 + 1, none⟩ = some (.int .i64 (xs.getD i Rec.z).tid.node) ∧ w.cell? ⟨b, o + i * 15 + 2, none⟩ = some (.int .i64 (xs.getD i Rec.z).tid.epoch) ∧ w.cell? ⟨b, o + i * 15 + 3, none⟩ = some (.int .i64 (xs.getD i Rec.z).tid.seq) ∧ w.cell? ⟨b, o + i * 15 + 4, none⟩ = some (.slice A4 (xs.getD i Rec.z).items.length c4) ∧ w.cell? ⟨b, o + i * 15 + 5, none⟩ = some (.slice A5 (xs.getD i Rec.z).nodes.length c5) ∧ w.cell? ⟨b, o + i * 15 + 6, none⟩ = some (.int .i64 (xs.getD i Rec.z).node) ∧ w.cell? ⟨b, o + i * 15 + 7, none⟩ = some (.int .i64 (xs.getD i Rec.z).count) ∧ w.cell? ⟨b, o + i * 15 + 8, none⟩ = some (.int .i64 (xs.getD i Rec.z).num) ∧ w.cell? ⟨b, o + i * 15 + 9, none⟩ = some (.int .i64 (xs.getD i Rec.z).cell) ∧ w.cell? ⟨b, o + i * 15 + 10, none⟩ = some (.int .i64 (xs.getD i Rec.z).status) ∧ w.cell? ⟨b, o + i * 15 + 11, none⟩ = some (.int .i64 (xs.getD i Rec.z).hop) ∧ w.cell? ⟨b, o + i * 15 + 12, none⟩ = some (.int .i64 (xs.getD i Rec.z).version) ∧ w.cell? ⟨b, o + i * 15 + 13, none⟩ = some (.int .i64 (xs.getD i Rec.z).value) ∧ w.cell? ⟨b, o + i * 15 + 14, none⟩ = some (.bool (xs.getD i Rec.z).yes) ∧ (xs.getD i Rec.z).items.length ≤ c4 ∧ kItem.C w A4 (xs.getD i Rec.z).items.length (xs.getD i Rec.z).items ∧ (xs.getD i Rec.z).nodes.length ≤ c5 ∧ (Kd.int .i64).C w A5 (xs.getD i Rec.z).nodes.length (xs.getD i Rec.z).nodes := by
  obtain ⟨b, o, c, e, hlt, hK, hc⟩ := Kd_at h Rec.z i h1 (by rw [kRec_sz]; omega)
  rw [kRec_sz] at hc
  obtain ⟨A4, c4, A5, c5, rfl, l4, g4, l5, g5⟩ := kRec_open hK
  exact ⟨b, o, A4, c4, A5, c5, e, hlt, hc 0 _ rfl, hc 1 _ rfl, hc 2 _ rfl, hc 3 _ rfl, hc 4 _ rfl, hc 5 _ rfl, hc 6 _ rfl, hc 7 _ rfl, hc 8 _ rfl, hc 9 _ rfl, hc 10 _ rfl, hc 11 _ rfl, hc 12 _ rfl, hc 13 _ rfl, hc 14 _ rfl, l4, g4, l5, g5⟩

/-! #### ACommit -/
structure ACommit where
  tid : Tid
  items : (List Item)
  at_ : Int
def ACommit.z : ACommit := ⟨Tid.z, ([] : List Item), (0 : Int)⟩
def kACommit : Kd ACommit := Kd.iso (Kd.pair kTid (Kd.pair (Kd.slice 38 kItem) (Kd.int .i64))) (fun x : ACommit => (x.tid, x.items, x.at_))
theorem kACommit_open {w : World} {x : ACommit} {cs : List Value} (h : kACommit.K w x cs) : ∃ A3 c3, cs = [.int .i64 x.tid.node, .int .i64 x.tid.epoch, .int .i64 x.tid.seq, .slice A3 x.items.length c3, .int .i64 x.at_] ∧ x.items.length ≤ c3 ∧ kItem.C w A3 x.items.length x.items := by
  obtain ⟨_, _, rfl, s0, ⟨_, _, rfl, ⟨A3, c3, rfl, l3, g3⟩, rfl⟩⟩ := h
  obtain rfl := kTid_open s0
  exact ⟨A3, c3, rfl, l3, g3⟩
theorem kACommit_openM {w : World} {base : Nat} {ok : Nat → Prop} {x : ACommit} {cs : List Value} (h : kACommit.M w base ok x cs) : ∃ v3, cs = [.int .i64 x.tid.node, .int .i64 x.tid.epoch, .int .i64 x.tid.seq, v3, .int .i64 x.at_] ∧ kItem.R 38 w base ok v3 x.items := by
  obtain ⟨_, _, rfl, s0, ⟨_, _, rfl, ⟨v3, rfl, g3⟩, rfl⟩⟩ := h
  obtain rfl := kTid_openM s0
  exact ⟨v3, rfl, g3⟩
theorem kACommit_mk (w : World) (x : ACommit) {A3 : Option Addr} {c3 : Nat} (l3 : x.items.length ≤ c3) (g3 : kItem.C w A3 x.items.length x.items) : kACommit.K w x [.int .i64 x.tid.node, .int .i64 x.tid.epoch, .int .i64 x.tid.seq, .slice A3 x.items.length c3, .int .i64 x.at_] := ⟨[.int .i64 x.tid.node, .int .i64 x.tid.epoch, .int .i64 x.tid.seq], [.slice A3 x.items.length c3, .int .i64 x.at_], rfl, (kTid_mk w x.tid), ⟨[.slice A3 x.items.length c3], [.int .i64 x.at_], rfl, ⟨A3, c3, rfl, l3, g3⟩, rfl⟩⟩
theorem kACommit_mkM (w : World) (base : Nat) (ok : Nat → Prop) (x : ACommit) {v3 : Value} (g3 : kItem.R 38 w base ok v3 x.items) : kACommit.M w base ok x [.int .i64 x.tid.node, .int .i64 x.tid.epoch, .int .i64 x.tid.seq, v3, .int .i64 x.at_] := ⟨[.int .i64 x.tid.node, .int .i64 x.tid.epoch, .int .i64 x.tid.seq], [v3, .int .i64 x.at_], rfl, (kTid_mkM w base ok x.tid), ⟨[v3], [.int .i64 x.at_], rfl, ⟨v3, rfl, g3⟩, rfl⟩⟩
theorem kACommit_sz : kACommit.sz = 5 := rfl
theorem kACommit_at {w : World} {A : Option Addr} {n : Nat} {xs : List ACommit} (h : Kd.C kACommit w A n xs) (i : Nat) (h1 : i < n) : ∃ b o A3 c3, A = some ⟨b, o, none⟩ ∧ b < w.heap.size ∧ w.cell? ⟨b, o + i * 5, none⟩ = some (.int .i64 (xs.getD i ACommit.z).tid.node) ∧ w.cell? ⟨b, o + i * 5 + 1, none⟩ = some (.int .i64 (xs.getD i ACommit.z).tid.epoch) ∧ w.cell? ⟨b, o + i * 5 + 2, none⟩ = some (.int .i64 (xs.getD i ACommit.z).tid.seq) ∧ w.cell? ⟨b, o + i * 5 + 3, none⟩ = some (.slice A3 (xs.getD i ACommit.z).items.length c3) ∧ w.cell? ⟨b, o + i * 5 + 4, none⟩ = some (.int .i64 (xs.getD i ACommit.z).at_) ∧ (xs.getD i ACommit.z).items.length ≤ c3 ∧ kItem.C w A3 (xs.getD i ACommit.z).items.length (xs.getD i ACommit.z).items := by
  obtain ⟨b, o, c, e, hlt, hK, hc⟩ := Kd_at h ACommit.z i h1 (by rw [kACommit_sz]; omega)
  rw [kACommit_sz] at hc
  obtain ⟨A3, c3, rfl, l3, g3⟩ := kACommit_open hK
  exact ⟨b, o, A3, c3, e, hlt, hc 0 _ rfl, hc 1 _ rfl, hc 2 _ rfl, hc 3 _ rfl, hc 4 _ rfl, l3, g3⟩

/-! #### Reg -/
structure Reg where
  version : Int
  value : Int
def Reg.z : Reg := ⟨(0 : Int), (0 : Int)⟩
instance : DecidableEq Reg := fun a b => if h : a.version = b.version ∧ a.value = b.value then isTrue (by cases a; cases b; simp_all) else isFalse (by rintro rfl; exact h (by simp))
def kReg : Kd Reg := Kd.iso (Kd.pair (Kd.int .i64) (Kd.int .i64)) (fun x : Reg => (x.version, x.value))
theorem kReg_open {w : World} {x : Reg} {cs : List Value} (h : kReg.K w x cs) : cs = [.int .i64 x.version, .int .i64 x.value] := by
  obtain ⟨_, _, rfl, rfl, rfl⟩ := h
  exact rfl
theorem kReg_openM {w : World} {base : Nat} {ok : Nat → Prop} {x : Reg} {cs : List Value} (h : kReg.M w base ok x cs) : cs = [.int .i64 x.version, .int .i64 x.value] := by
  obtain ⟨_, _, rfl, rfl, rfl⟩ := h
  exact rfl
theorem kReg_mk (w : World) (x : Reg)  : kReg.K w x [.int .i64 x.version, .int .i64 x.value] := ⟨[.int .i64 x.version], [.int .i64 x.value], rfl, rfl, rfl⟩
theorem kReg_mkM (w : World) (base : Nat) (ok : Nat → Prop) (x : Reg)  : kReg.M w base ok x [.int .i64 x.version, .int .i64 x.value] := ⟨[.int .i64 x.version], [.int .i64 x.value], rfl, rfl, rfl⟩
theorem kReg_sz : kReg.sz = 2 := rfl
theorem kReg_at {w : World} {A : Option Addr} {n : Nat} {xs : List Reg} (h : Kd.C kReg w A n xs) (i : Nat) (h1 : i < n) : ∃ b o , A = some ⟨b, o, none⟩ ∧ b < w.heap.size ∧ w.cell? ⟨b, o + i * 2, none⟩ = some (.int .i64 (xs.getD i Reg.z).version) ∧ w.cell? ⟨b, o + i * 2 + 1, none⟩ = some (.int .i64 (xs.getD i Reg.z).value) := by
  obtain ⟨b, o, c, e, hlt, hK, hc⟩ := Kd_at h Reg.z i h1 (by rw [kReg_sz]; omega)
  rw [kReg_sz] at hc
  obtain rfl := kReg_open hK
  exact ⟨b, o, e, hlt, hc 0 _ rfl, hc 1 _ rfl⟩

end Go.Proofs.YtghfjgacnbcclaaGreat
