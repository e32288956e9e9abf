/- Plain predicates on memory, of whatever program: trees of terms that lie in cells, frames with a set of blocks that may have turned, owned rows. Nothing of the dump. -/
import Derived.WalkKit
import Derived.WalkSmall
import Derived.Lib.Hide
import Derived.Deep.LoopGhost
import Derived.Laws.Rows
namespace Go.Proofs.YtkjkckdjenjgdaaDoor
open Go Go.RowKit

/-- A value is handed back, and of it and the world behind the call this holds. -/
def Ret (Q : Value → World → Prop) (e : Ending) (w' : World) : Prop := ∃ v, e = .returned v ∧ Q v w'

theorem cell_of_block {w : World} {b : Nat} {cs : Array Value} {t : TypeId} {fr : Nat × Nat} (h : w.heap[b]? = some (.cells cs t fr)) (i : Nat) (hi : i < cs.size) : w.cell? ⟨b, i, none⟩ = some cs[i] := by
  simp [World.cell?, h, hi]
theorem frozen_of_block {w : World} {b : Nat} {cs : Array Value} {t : TypeId} (h : w.heap[b]? = some (.cells cs t (0, 0))) (i : Nat) : w.frozen? ⟨b, i, none⟩ = false := by
  simp [World.frozen?, h]
theorem keep_alloc {w : World} {o : Obj} {a : Addr} {v : Value} (h : w.cell? a = some v) : (w.alloc o).cell? a = some v := (World.cell?_alloc_lt w o a (World.block_lt_of_cell? w a h)).trans h
theorem keep_drew {w : World} {a : Addr} {v : Value} (h : w.cell? a = some v) : w.drew.cell? a = some v := h
theorem keep_set {w : World} {p a : Addr} {u v : Value} (h : w.cell? a = some v) (hne : p.block ≠ a.block) : (w.setCell p u).cell? a = some v := (World.cell?_setCell_other w p a u (fun e => hne (congrArg Addr.block e))).trans h
theorem keep_below {w w' : World} {a : Addr} {v : Value} (hb : Below w.heap.size w w') (h : w.cell? a = some v) : w'.cell? a = some v := (hb.cell (World.block_lt_of_cell? w a h)).trans h
theorem heap_set {w : World} {b i : Nat} {cs : Array Value} {t : TypeId} {fr : Nat × Nat} {v : Value} (h : w.heap[b]? = some (.cells cs t fr)) : (w.setCell ⟨b, i, none⟩ v).heap[b]? = some (.cells (cs.setIfInBounds i v) t fr) := by
  simp [World.setCell, Array.getElem?_modify, h]
theorem drew_heap (w : World) : w.drew.heap = w.heap := rfl
theorem heap_new' {w : World} {o : Obj} {n : Nat} (h : n = w.heap.size) : (w.alloc o).heap[n]? = some o := by subst h; exact heap_alloc_new w o
theorem heap_old' {w : World} {o : Obj} {n : Nat} {x : Option Obj} (h : n < w.heap.size) (k : w.heap[n]? = x) : (w.alloc o).heap[n]? = x := (heap_alloc_old w o h).trans k
theorem maxLen_le {n : Nat} (h : n ≤ maxLen) : n ≤ 9223372036854775807 := by simp only [maxLen] at h; omega
theorem retI {k : IntKind} {a b : Int} (h : a = b) : Ending.returned (.int k a) = .returned (.int k b) := by rw [h]
theorem retB {a b : Bool} (h : a = b) : Ending.returned (.bool a) = .returned (.bool b) := by rw [h]
/-- A term as a tree. -/
inductive Tm where
  | mk (kind n : Int) (s : ByteArray) (args : List Tm)
namespace Tm
def kind : Tm → Int | mk k _ _ _ => k
def n : Tm → Int | mk _ n _ _ => n
def s : Tm → ByteArray | mk _ _ s _ => s
def args : Tm → List Tm | mk _ _ _ l => l
theorem eta : (t : Tm) → Tm.mk t.kind t.n t.s t.args = t | mk _ _ _ _ => rfl
end Tm

/-- What may have turned lies in M or is new. -/
structure Fr (M : Nat → Prop) (w w' : World) : Prop where
  os : w'.os = w.os
  tape : w'.tape = w.tape
  output : w'.output = w.output
  size : w.heap.size ≤ w'.heap.size
  block : ∀ k, k < w.heap.size → ¬ M k → w'.heap[k]? = w.heap[k]?
theorem Fr.refl (M : Nat → Prop) (w : World) : Fr M w w := ⟨rfl, rfl, rfl, Nat.le_refl _, fun _ _ _ => rfl⟩
theorem Fr.of_below {M : Nat → Prop} {w w' : World} (h : Below w.heap.size w w') : Fr M w w' := ⟨h.os, h.tape, h.output, h.size, fun k hk _ => h.block k hk⟩
theorem Fr.trans {M : Nat → Prop} {a b c : World} (h : Fr M a b) (k : Fr M b c) : Fr M a c :=
  ⟨k.os.trans h.os, k.tape.trans h.tape, k.output.trans h.output, Nat.le_trans h.size k.size, fun i hi hm => (k.block i (Nat.lt_of_lt_of_le hi h.size) hm).trans (h.block i hi hm)⟩
/-- Two steps of which the second may turn blocks that the first has made. -/
theorem Fr.trans' {M M' : Nat → Prop} {a b c : World} (h : Fr M a b) (k : Fr M' b c) (hm : ∀ i, M' i → M i ∨ a.heap.size ≤ i) : Fr M a c :=
  ⟨k.os.trans h.os, k.tape.trans h.tape, k.output.trans h.output, Nat.le_trans h.size k.size, fun i hi hn => (k.block i (Nat.lt_of_lt_of_le hi h.size) (fun hx => by rcases hm i hx with h1 | h1; exact hn h1; omega)).trans (h.block i hi hn)⟩
theorem Fr.mono {M M' : Nat → Prop} {w w' : World} (h : Fr M w w') (hm : ∀ i, M i → M' i) : Fr M' w w' := ⟨h.os, h.tape, h.output, h.size, fun k hk hn => h.block k hk fun hx => hn (hm k hx)⟩
theorem Fr.below {M : Nat → Prop} {B : Nat} {w w' : World} (h : Fr M w w') (hB : B ≤ w.heap.size) (hM : ∀ k, M k → B ≤ k) : Below B w w' :=
  ⟨h.os, h.tape, h.output, h.size, fun k hk => h.block k (by omega) fun hm => by have := hM k hm; omega⟩
theorem Fr.cell {M : Nat → Prop} {w w' : World} (h : Fr M w w') {a : Addr} {v : Value} (hc : w.cell? a = some v) (hn : ¬ M a.block) : w'.cell? a = some v :=
  (World.cell?_of_block (w := w) (h.block a.block (World.block_lt_of_cell? w a hc) hn)).trans hc
theorem Fr.drew (M : Nat → Prop) (w : World) : Fr M w w.drew := ⟨rfl, rfl, rfl, Nat.le_refl _, fun _ _ _ => rfl⟩
theorem Fr.alloc (M : Nat → Prop) (w : World) (o : Obj) : Fr M w (w.alloc o) := ⟨rfl, rfl, rfl, by simp, fun k hk _ => Below.heap_alloc _ _ _ hk⟩
theorem Fr.setCell {M : Nat → Prop} (w : World) {p : Addr} (hp : M p.block) (u : Value) : Fr M w (w.setCell p u) :=
  ⟨rfl, rfl, rfl, by simp, fun k _ hn => Below.heap_setCell _ _ _ _ (fun e => hn (e ▸ hp))⟩
theorem Fr.set1 (w : World) (b o : Nat) (u : Value) : Fr (· = b) w (w.setCell ⟨b, o, none⟩ u) := Fr.setCell (M := (· = b)) (p := ⟨b, o, none⟩) w rfl u
theorem Fr.grown {M : Nat → Prop} {w w' : World} {row : Option Nat} (hg : w.grownBy w' row) (hr : ∀ k, row = some k → M k) : Fr M w w' :=
  ⟨hg.os, hg.tape, hg.output, hg.size, fun k hk hn => hg.block k hk fun e => hn (hr k e.symm)⟩

mutual
/-- The term t lies in the four cells at block b from o on, and what it reaches lies in blocks of I. -/
def TmC (w : World) (I : Nat → Prop) : Tm → Nat → Nat → Prop
  | .mk k n s ts, b, o => I b ∧ w.cell? ⟨b, o, none⟩ = some (.int .i64 k) ∧ w.cell? ⟨b, o + 1, none⟩ = some (.int .i64 n) ∧ w.cell? ⟨b, o + 2, none⟩ = some (.string s) ∧
      ∃ a c, w.cell? ⟨b, o + 3, none⟩ = some (.slice a ts.length c) ∧ ts.length ≤ c ∧ (0 < ts.length → ∃ b' o', a = some ⟨b', o', none⟩ ∧ TmsC w I ts b' o')
def TmsC (w : World) (I : Nat → Prop) : List Tm → Nat → Nat → Prop
  | [], _, _ => True
  | t :: ts, b, o => TmC w I t b o ∧ TmsC w I ts b (o + 4)
end
/-- The Args: a slice's address and capacity. -/
def SlC (w : World) (I : Nat → Prop) (ts : List Tm) (a : Option Addr) (c : Nat) : Prop :=
  ts.length ≤ c ∧ (0 < ts.length → ∃ b o, a = some ⟨b, o, none⟩ ∧ TmsC w I ts b o)
def tmVal (t : Tm) (a : Option Addr) (c : Nat) : Value := .agg #[.int .i64 t.kind, .int .i64 t.n, .string t.s, .slice a t.args.length c]
/-- The value v is the term t. -/
def TmV (w : World) (I : Nat → Prop) (t : Tm) (v : Value) : Prop := ∃ a c, v = tmVal t a c ∧ SlC w I t.args a c

theorem TmC.iff {w : World} {I : Nat → Prop} {t : Tm} {b o : Nat} : TmC w I t b o ↔ I b ∧ w.cell? ⟨b, o, none⟩ = some (.int .i64 t.kind) ∧ w.cell? ⟨b, o + 1, none⟩ = some (.int .i64 t.n) ∧
    w.cell? ⟨b, o + 2, none⟩ = some (.string t.s) ∧ ∃ a c, w.cell? ⟨b, o + 3, none⟩ = some (.slice a t.args.length c) ∧ SlC w I t.args a c := by
  cases t with | mk k n s ts => simp only [TmC, SlC, Tm.kind, Tm.n, Tm.s, Tm.args]

mutual
theorem TmC.keep {w w' : World} {I : Nat → Prop} (h : ∀ b, I b → b < w.heap.size → w'.heap[b]? = w.heap[b]?) : ∀ (t : Tm) (b o : Nat), TmC w I t b o → TmC w' I t b o
  | .mk k n s ts, b, o, ht => by
    simp only [TmC] at ht ⊢
    obtain ⟨hi, h0, h1, h2, a, c, h3, h4, h5⟩ := ht
    have hb := World.block_lt_of_cell? w _ h0
    have e : ∀ j, w'.cell? ⟨b, j, none⟩ = w.cell? ⟨b, j, none⟩ := fun j => World.cell?_of_block (w := w) (h b hi hb)
    refine ⟨hi, by rw [e]; exact h0, by rw [e]; exact h1, by rw [e]; exact h2, a, c, by rw [e]; exact h3, h4, fun hl => ?_⟩
    obtain ⟨b', o', ha, hts⟩ := h5 hl
    exact ⟨b', o', ha, TmsC.keep h ts b' o' hts⟩
theorem TmsC.keep {w w' : World} {I : Nat → Prop} (h : ∀ b, I b → b < w.heap.size → w'.heap[b]? = w.heap[b]?) : ∀ (ts : List Tm) (b o : Nat), TmsC w I ts b o → TmsC w' I ts b o
  | [], _, _, _ => by simp only [TmsC]
  | t :: ts, b, o, ht => by
    simp only [TmsC] at ht ⊢
    exact ⟨TmC.keep h t b o ht.1, TmsC.keep h ts b (o + 4) ht.2⟩
end
mutual
theorem TmC.mono {w : World} {I J : Nat → Prop} (h : ∀ b, I b → J b) : ∀ (t : Tm) (b o : Nat), TmC w I t b o → TmC w J t b o
  | .mk k n s ts, b, o, ht => by
    simp only [TmC] at ht ⊢
    obtain ⟨hi, h0, h1, h2, a, c, h3, h4, h5⟩ := ht
    refine ⟨h b hi, h0, h1, h2, a, c, h3, h4, fun hl => ?_⟩
    obtain ⟨b', o', ha, hts⟩ := h5 hl
    exact ⟨b', o', ha, TmsC.mono h ts b' o' hts⟩
theorem TmsC.mono {w : World} {I J : Nat → Prop} (h : ∀ b, I b → J b) : ∀ (ts : List Tm) (b o : Nat), TmsC w I ts b o → TmsC w J ts b o
  | [], _, _, _ => by simp only [TmsC]
  | t :: ts, b, o, ht => by
    simp only [TmsC] at ht ⊢
    exact ⟨TmC.mono h t b o ht.1, TmsC.mono h ts b (o + 4) ht.2⟩
end
theorem SlC.keep {w w' : World} {I : Nat → Prop} {ts : List Tm} {a : Option Addr} {c : Nat} (h : ∀ b, I b → b < w.heap.size → w'.heap[b]? = w.heap[b]?) (ht : SlC w I ts a c) : SlC w' I ts a c :=
  ⟨ht.1, fun hl => let ⟨b, o, ha, hts⟩ := ht.2 hl; ⟨b, o, ha, TmsC.keep h ts b o hts⟩⟩
theorem SlC.mono {w : World} {I J : Nat → Prop} {ts : List Tm} {a : Option Addr} {c : Nat} (h : ∀ b, I b → J b) (ht : SlC w I ts a c) : SlC w J ts a c :=
  ⟨ht.1, fun hl => let ⟨b, o, ha, hts⟩ := ht.2 hl; ⟨b, o, ha, TmsC.mono h ts b o hts⟩⟩
theorem TmV.keep {w w' : World} {I : Nat → Prop} {t : Tm} {v : Value} (h : ∀ b, I b → b < w.heap.size → w'.heap[b]? = w.heap[b]?) (ht : TmV w I t v) : TmV w' I t v :=
  let ⟨a, c, hv, hs⟩ := ht; ⟨a, c, hv, hs.keep h⟩
theorem TmV.mono {w : World} {I J : Nat → Prop} {t : Tm} {v : Value} (h : ∀ b, I b → J b) (ht : TmV w I t v) : TmV w J t v :=
  let ⟨a, c, hv, hs⟩ := ht; ⟨a, c, hv, hs.mono h⟩
theorem SlC.below {w w' : World} {I : Nat → Prop} {ts : List Tm} {a : Option Addr} {c : Nat} (ht : SlC w I ts a c) (h : Below w.heap.size w w') : SlC w' I ts a c := ht.keep fun b _ hb => h.block b hb
theorem TmV.below {w w' : World} {I : Nat → Prop} {t : Tm} {v : Value} (ht : TmV w I t v) (h : Below w.heap.size w w') : TmV w' I t v := ht.keep fun b _ hb => h.block b hb
theorem SlC.fr {w w' : World} {I M : Nat → Prop} {ts : List Tm} {a : Option Addr} {c : Nat} (ht : SlC w I ts a c) (h : Fr M w w') (hM : ∀ b, I b → ¬ M b) : SlC w' I ts a c := ht.keep fun b hi hb => h.block b hb (hM b hi)
theorem TmV.fr {w w' : World} {I M : Nat → Prop} {t : Tm} {v : Value} (ht : TmV w I t v) (h : Fr M w w') (hM : ∀ b, I b → ¬ M b) : TmV w' I t v := ht.keep fun b hi hb => h.block b hb (hM b hi)

theorem SlC.drew {w : World} {I : Nat → Prop} {ts : List Tm} {a : Option Addr} {c : Nat} (ht : SlC w I ts a c) : SlC w.drew I ts a c := SlC.keep (w := w) (w' := w.drew) (fun _ _ _ => rfl) ht
theorem SlC.alloc {w : World} {I : Nat → Prop} {ts : List Tm} {a : Option Addr} {c : Nat} (ht : SlC w I ts a c) (o : Obj) : SlC (w.alloc o) I ts a c := ht.fr (Fr.alloc (fun _ => False) _ _) fun _ _ => id
theorem TmsC.drew {w : World} {I : Nat → Prop} {ts : List Tm} {b o : Nat} (ht : TmsC w I ts b o) : TmsC w.drew I ts b o := TmsC.keep (w := w) (w' := w.drew) (fun _ _ _ => rfl) ts b o ht
theorem TmsC.fr {w w' : World} {I M : Nat → Prop} {ts : List Tm} {b o : Nat} (ht : TmsC w I ts b o) (h : Fr M w w') (hM : ∀ b, I b → ¬ M b) : TmsC w' I ts b o := TmsC.keep (fun b hi hb => h.block b hb (hM b hi)) ts b o ht
theorem TmsC.below {w w' : World} {I : Nat → Prop} {ts : List Tm} {b o : Nat} (ht : TmsC w I ts b o) (h : Below w.heap.size w w') : TmsC w' I ts b o := TmsC.keep (fun b _ hb => h.block b hb) ts b o ht
/-- The i-th of them. -/
theorem TmsC.get {w : World} {I : Nat → Prop} : ∀ {ts : List Tm} {b o : Nat}, TmsC w I ts b o → ∀ (i : Nat) (h : i < ts.length), TmC w I ts[i] b (o + i * 4)
  | t :: ts, b, o, ht, 0, _ => by simp only [TmsC] at ht; simpa using ht.1
  | t :: ts, b, o, ht, i + 1, h => by
    simp only [TmsC] at ht
    have := TmsC.get ht.2 i (by simpa using h)
    have e : o + 4 + i * 4 = o + (i + 1) * 4 := by omega
    rw [e] at this
    simpa using this
theorem TmsC.of_get {w : World} {I : Nat → Prop} : ∀ {ts : List Tm} {b o : Nat}, (∀ (i : Nat) (h : i < ts.length), TmC w I ts[i] b (o + i * 4)) → TmsC w I ts b o
  | [], _, _, _ => by simp only [TmsC]
  | t :: ts, b, o, h => by
    simp only [TmsC]
    refine ⟨by have h0 := h 0 (by simp); simpa only [List.getElem_cons_zero, Nat.zero_mul, Nat.add_zero] using h0, TmsC.of_get fun i hi => ?_⟩
    have := h (i + 1) (by simpa using hi)
    have e : o + 4 + i * 4 = o + (i + 1) * 4 := by omega
    rw [e]
    simpa using this
/-- The cells of the i-th, one by one, and its own Args. -/
theorem TmsC.cells {w : World} {I : Nat → Prop} {ts : List Tm} {b o : Nat} (h : TmsC w I ts b o) (i : Nat) (hi : i < ts.length) :
    ∃ a c, w.cell? ⟨b, o + i * 4, none⟩ = some (.int .i64 ts[i].kind) ∧ w.cell? ⟨b, o + i * 4 + 1, none⟩ = some (.int .i64 ts[i].n) ∧ w.cell? ⟨b, o + i * 4 + 2, none⟩ = some (.string ts[i].s) ∧
      w.cell? ⟨b, o + i * 4 + 3, none⟩ = some (.slice a ts[i].args.length c) ∧ SlC w I ts[i].args a c := by
  obtain ⟨_, h0, h1, h2, a, c, h3, h4⟩ := TmC.iff.1 (h.get i hi)
  exact ⟨a, c, h0, h1, h2, h3, h4⟩

mutual
/-- The parts of a term, from the left, each ahead of its Args, and how deep each stands. -/
def Tm.flat : Tm → Int → List (Tm × Int)
  | .mk k n s ts, d => (.mk k n s ts, d) :: Tm.flats ts (d + 1)
def Tm.flats : List Tm → Int → List (Tm × Int)
  | [], _ => []
  | t :: ts, d => Tm.flat t d ++ Tm.flats ts d
end
theorem Tm.flat_eq (t : Tm) (d : Int) : t.flat d = (t, d) :: Tm.flats t.args (d + 1) := by cases t; simp [Tm.flat, Tm.args]
theorem Tm.flats_eq (ts : List Tm) (d : Int) : Tm.flats ts d = ts.flatMap fun t => t.flat d := by
  induction ts with
  | nil => rfl
  | cons t ts ih => simp [Tm.flats, ih]
mutual
/-- How many parts. -/
def Tm.size : Tm → Nat
  | .mk _ _ _ ts => 1 + Tm.sizes ts
def Tm.sizes : List Tm → Nat
  | [] => 0
  | t :: ts => Tm.size t + Tm.sizes ts
end
theorem Tm.size_eq (t : Tm) : t.size = 1 + Tm.sizes t.args := by cases t; simp [Tm.size, Tm.args]
mutual
theorem Tm.length_flat : ∀ (t : Tm) (d : Int), (t.flat d).length = t.size
  | .mk k n s ts, d => by simp only [Tm.flat, Tm.size, List.length_cons, Tm.length_flats ts (d + 1)]; omega
theorem Tm.length_flats : ∀ (ts : List Tm) (d : Int), (Tm.flats ts d).length = Tm.sizes ts
  | [], _ => rfl
  | t :: ts, d => by simp only [Tm.flats, Tm.sizes, List.length_append, Tm.length_flat t d, Tm.length_flats ts d]
end
mutual
theorem Tm.flat_deep : ∀ (t : Tm) (d : Int) (y : Tm × Int), y ∈ t.flat d → d ≤ y.2 ∧ y.2 < d + t.size
  | .mk k n s ts, d, y, h => by
    simp only [Tm.flat, List.mem_cons] at h
    simp only [Tm.size]
    rcases h with rfl | h
    · simp only; omega
    · have := Tm.flats_deep ts (d + 1) y h; omega
theorem Tm.flats_deep : ∀ (ts : List Tm) (d : Int) (y : Tm × Int), y ∈ Tm.flats ts d → d ≤ y.2 ∧ y.2 < d + Tm.sizes ts
  | [], _, y, h => by simp [Tm.flats] at h
  | t :: ts, d, y, h => by
    simp only [Tm.flats, List.mem_append] at h
    simp only [Tm.sizes]
    rcases h with h | h
    · have := Tm.flat_deep t d y h; omega
    · have := Tm.flats_deep ts d y h; omega
end

mutual
/-- Blocks that are there. -/
theorem TmC.there {w : World} {I : Nat → Prop} : ∀ (t : Tm) (b o : Nat), TmC w I t b o → TmC w (fun b => I b ∧ b < w.heap.size) t b o
  | .mk k n s ts, b, o, ht => by
    simp only [TmC] at ht ⊢
    obtain ⟨hi, h0, h1, h2, a, c, h3, h4, h5⟩ := ht
    refine ⟨⟨hi, World.block_lt_of_cell? w _ h0⟩, h0, h1, h2, a, c, h3, h4, fun hl => ?_⟩
    obtain ⟨b', o', ha, hts⟩ := h5 hl
    exact ⟨b', o', ha, TmsC.there ts b' o' hts⟩
theorem TmsC.there {w : World} {I : Nat → Prop} : ∀ (ts : List Tm) (b o : Nat), TmsC w I ts b o → TmsC w (fun b => I b ∧ b < w.heap.size) ts b o
  | [], _, _, _ => by simp only [TmsC]
  | t :: ts, b, o, ht => by
    simp only [TmsC] at ht ⊢
    exact ⟨TmC.there t b o ht.1, TmsC.there ts b (o + 4) ht.2⟩
end
theorem SlC.there {w : World} {I : Nat → Prop} {ts : List Tm} {a : Option Addr} {c : Nat} (ht : SlC w I ts a c) : SlC w (fun b => I b ∧ b < w.heap.size) ts a c :=
  ⟨ht.1, fun hl => let ⟨b, o, ha, hts⟩ := ht.2 hl; ⟨b, o, ha, TmsC.there ts b o hts⟩⟩
theorem TmV.there {w : World} {I : Nat → Prop} {t : Tm} {v : Value} (ht : TmV w I t v) : TmV w (fun b => I b ∧ b < w.heap.size) t v :=
  let ⟨a, c, hv, hs⟩ := ht; ⟨a, c, hv, hs.there⟩

/-- A stack of items, each of so many cells, in a row of the call's own. -/
def Stk {ι : Type} (w : World) (base : Nat) (e : TypeId) (size : Nat) (cel : ι → List Value) (v : Value) (L : List ι) : Prop :=
  w.ownsRow base e size v L.length (L.flatMap cel)
theorem flatMap_length {ι α : Type} {cel : ι → List α} {size : Nat} (hc : ∀ x, (cel x).length = size) (L : List ι) : (L.flatMap cel).length = L.length * size := by
  induction L with
  | nil => simp
  | cons x L ih => simp only [List.flatMap_cons, List.length_append, hc, ih, List.length_cons, Nat.add_mul, Nat.one_mul]; omega
theorem Stk.push {ι : Type} {w : World} {base : Nat} {e : TypeId} {size : Nat} {cel : ι → List Value} {v : Value} {L : List ι} {x : ι} (h : w.ownsRow base e size v (L.length + 1) (L.flatMap cel ++ cel x)) : Stk w base e size cel v (L ++ [x]) := by
  unfold Stk
  simpa using h
theorem Stk.top {ι : Type} {w : World} {base : Nat} {e : TypeId} {size : Nat} {cel : ι → List Value} {v : Value} {L : List ι} {x : ι} (h : Stk w base e size cel v (L ++ [x])) (hc : ∀ x, (cel x).length = size) :
    ∃ g cap, v = .slice (some ⟨g, 0, none⟩) (L.length + 1) cap ∧ base ≤ g ∧ g < w.heap.size ∧ L.length + 1 ≤ cap ∧ cap ≤ maxLen ∧ (∀ j u, (cel x)[j]? = some u → w.cell? ⟨g, L.length * size + j, none⟩ = some u) ∧
      Stk w base e size cel (.slice (some ⟨g, 0, none⟩) L.length cap) L := by
  unfold Stk at h ⊢
  simp only [List.length_append, List.length_cons, List.length_nil, Nat.zero_add, List.flatMap_append, List.flatMap_cons, List.flatMap_nil, List.append_nil] at h
  have hx := flatMap_length hc L
  obtain ⟨h1, h2⟩ := h
  rcases h2 with ⟨_, h0⟩ | ⟨g, cap, cur, hv, hg, hh, hn, hcap, hsz, htake⟩
  · omega
  · subst hv
    have hlt : g < w.heap.size := (Array.getElem?_eq_some_iff.1 hh).1
    refine ⟨g, cap, rfl, hg, hlt, hn, hcap, fun j u hu => ?_, ?_⟩
    · have hjl : j < size := by have := (List.getElem?_eq_some_iff.1 hu).1; rwa [hc] at this
      have := World.ownsRow.cellAt (w := w) (base := base) (e := e) (size := size) (g := g) (cap := cap) ⟨h1, .inr ⟨g, cap, cur, rfl, hg, hh, hn, hcap, hsz, htake⟩⟩ (L.length * size + j) (by rw [Nat.add_mul]; omega)
      rw [this, List.getElem?_append_right (by omega), hx, Nat.add_sub_cancel_left]
      exact hu
    · exact ownsRow_pop hx ⟨h1, .inr ⟨g, cap, cur, rfl, hg, hh, hn, hcap, hsz, htake⟩⟩
theorem Stk.fr {ι : Type} {w w' : World} {base : Nat} {e : TypeId} {size : Nat} {cel : ι → List Value} {v : Value} {L : List ι} {M : Nat → Prop} (h : Stk w base e size cel v L) (hf : Fr M w w') (hm : ∀ k, v.ownBlock = some k → ¬ M k) : Stk w' base e size cel v L := by
  obtain ⟨h1, h2⟩ := h
  refine ⟨h1, ?_⟩
  rcases h2 with h2 | ⟨g, cap, cur, hv, hg, hh, r⟩
  · exact .inl h2
  · exact .inr ⟨g, cap, cur, hv, hg, by rw [hf.block g (Array.getElem?_eq_some_iff.1 hh).1 (hm g (by rw [hv]; rfl))]; exact hh, r⟩
theorem Stk.lt {ι : Type} {w : World} {base : Nat} {e : TypeId} {size : Nat} {cel : ι → List Value} {v : Value} {L : List ι} (h : Stk w base e size cel v L) : ∀ k, v.ownBlock = some k → base ≤ k ∧ k < w.heap.size := World.ownsRow.lt h
theorem Stk.slice {ι : Type} {w : World} {base : Nat} {e : TypeId} {size : Nat} {cel : ι → List Value} {v : Value} {L : List ι} (h : Stk w base e size cel v L) : ∃ a cap, v = .slice a L.length cap := by
  obtain ⟨_, h2⟩ := h
  rcases h2 with ⟨h2, h3⟩ | ⟨g, cap, cur, hv, _⟩
  · exact ⟨none, 0, by rw [h2, h3]⟩
  · exact ⟨_, _, hv⟩
theorem list_snoc {ι : Type} (L : List ι) (h : 0 < L.length) : ∃ L' x, L = L' ++ [x] :=
  ⟨L.dropLast, L.getLast (by intro h'; simp [h'] at h), (List.dropLast_concat_getLast (by intro h'; simp [h'] at h)).symm⟩

/-- A part that waits, and how deep it stands. -/
structure AbI where
  t : Tm
  a : Option Addr
  c : Nat
  d : Int
def AbI.cells (x : AbI) : List Value := [.int .i64 x.t.kind, .int .i64 x.t.n, .string x.t.s, .slice x.a x.t.args.length x.c, .int .i64 x.d]
theorem AbI.length_cells (x : AbI) : x.cells.length = 5 := rfl
/-- The Args of a term, as items. -/
theorem TmsC.items {w : World} {I : Nat → Prop} {ts : List Tm} {b o : Nat} (h : TmsC w I ts b o) (d : Int) :
    ∃ K : List AbI, K.map (·.t) = ts ∧ (∀ x ∈ K, x.d = d ∧ SlC w I x.t.args x.a x.c) ∧
      ∀ (i : Nat) (x : AbI), K[i]? = some x → I b ∧ w.cell? ⟨b, o + i * 4, none⟩ = some (.int .i64 x.t.kind) ∧ w.cell? ⟨b, o + i * 4 + 1, none⟩ = some (.int .i64 x.t.n) ∧ w.cell? ⟨b, o + i * 4 + 2, none⟩ = some (.string x.t.s) ∧
        w.cell? ⟨b, o + i * 4 + 3, none⟩ = some (.slice x.a x.t.args.length x.c) := by
  induction ts generalizing o with
  | nil => exact ⟨[], rfl, by simp, by simp⟩
  | cons t ts ih =>
    simp only [TmsC] at h
    obtain ⟨K, hK, h1, h2⟩ := ih h.2
    obtain ⟨hib, c0, c1, c2, a, c, c3, hs⟩ := TmC.iff.1 h.1
    refine ⟨⟨t, a, c, d⟩ :: K, by simp [hK], ?_, ?_⟩
    · intro x hx
      rcases List.mem_cons.1 hx with rfl | hx
      · exact ⟨rfl, hs⟩
      · exact h1 x hx
    · intro i x hx
      cases i with
      | zero => simp only [List.getElem?_cons_zero, Option.some.injEq] at hx; subst hx; simpa using ⟨hib, c0, c1, c2, c3⟩
      | succ i =>
        have := h2 i x (by simpa using hx)
        have e : o + 4 + i * 4 = o + (i + 1) * 4 := by omega
        rwa [e] at this
theorem SlC.items {w : World} {I : Nat → Prop} {ts : List Tm} {a : Option Addr} {c : Nat} (h : SlC w I ts a c) (d : Int) :
    ∃ K : List AbI, K.map (·.t) = ts ∧ (∀ x ∈ K, x.d = d ∧ SlC w I x.t.args x.a x.c) ∧
      (0 < ts.length → ∃ b o, a = some ⟨b, o, none⟩ ∧ ∀ (i : Nat) (x : AbI), K[i]? = some x → I b ∧ w.cell? ⟨b, o + i * 4, none⟩ = some (.int .i64 x.t.kind) ∧ w.cell? ⟨b, o + i * 4 + 1, none⟩ = some (.int .i64 x.t.n) ∧ w.cell? ⟨b, o + i * 4 + 2, none⟩ = some (.string x.t.s) ∧
        w.cell? ⟨b, o + i * 4 + 3, none⟩ = some (.slice x.a x.t.args.length x.c)) := by
  rcases Nat.eq_zero_or_pos ts.length with h0 | h0
  · obtain rfl := List.eq_nil_of_length_eq_zero h0
    exact ⟨[], rfl, by simp, by simp⟩
  · obtain ⟨b, o, ha, hts⟩ := h.2 h0
    obtain ⟨K, h1, h2, h3⟩ := hts.items d
    exact ⟨K, h1, h2, fun _ => ⟨b, o, ha, h3⟩⟩
theorem Tm.length_le_flats (d : Int) : ∀ ts : List Tm, ts.length ≤ (Tm.flats ts d).length
  | [] => by simp
  | t :: ts => by have := Tm.length_le_flats d ts; simp only [Tm.flats, List.length_append, List.length_cons, Tm.length_flat, Tm.size_eq]; omega
/-- All parts that are still to come. -/
def AbI.rest (L : List AbI) : List (Tm × Int) := L.reverse.flatMap fun x => x.t.flat x.d
theorem AbI.rest_pop (L : List AbI) (x : AbI) : AbI.rest (L ++ [x]) = (x.t, x.d) :: (Tm.flats x.t.args (x.d + 1) ++ AbI.rest L) := by
  simp [AbI.rest, Tm.flat_eq]
theorem AbI.rest_push (L K : List AbI) (d : Int) (h : ∀ x ∈ K, x.d = d) : AbI.rest (L ++ K.reverse) = Tm.flats (K.map (·.t)) d ++ AbI.rest L := by
  have : K.flatMap (fun x => x.t.flat x.d) = (K.map (·.t)).flatMap (fun t => t.flat d) := by
    induction K with
    | nil => rfl
    | cons x K ih => simp only [List.flatMap_cons, List.map_cons]; rw [ih (fun y hy => h y (by simp [hy])), h x (by simp)]
  simp only [AbI.rest, List.reverse_append, List.reverse_reverse, List.flatMap_append, Tm.flats_eq, this]
theorem AbI.length_le_rest (L : List AbI) : L.length ≤ (AbI.rest L).length := by
  have : ∀ K : List AbI, K.length ≤ (K.flatMap fun x => x.t.flat x.d).length := by
    intro K
    induction K with
    | nil => simp
    | cons x K ih => simp only [List.flatMap_cons, List.length_append, List.length_cons, Tm.length_flat, Tm.size_eq]; omega
  have := this L.reverse
  simpa [AbI.rest] using this
end Go.Proofs.YtkjkckdjenjgdaaDoor
