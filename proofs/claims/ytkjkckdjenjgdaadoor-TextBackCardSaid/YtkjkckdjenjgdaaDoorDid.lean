/- What a builtin comes to, laid into a block of its own: plain lemmas for the regions 'd, e := text.Do(..)'. -/
import Derived.Test.YtkjkckdjenjgdaaDoorLaw
import Derived.Test.YtkjkckdjenjgdaaDoorDo
namespace Go.Proofs.YtkjkckdjenjgdaaDoor
open Go Go.RowKit

/-- The cells of a block hold what a builtin comes to. -/
structure DidC (w : World) (I : Nat → Prop) (d : DidS) (p : Nat) (a1 : Option Addr) (c1 : Nat) (a2 : Option Addr) (c2 : Nat) (a3 : Option Addr) (c3 : Nat) : Prop where
  k0 : w.cell? ⟨p, 0, none⟩ = some (.bool d.ok)
  k1 : w.cell? ⟨p, 1, none⟩ = some (.slice a1 d.args.length c1)
  k2 : w.cell? ⟨p, 2, none⟩ = some (.slice a2 d.terms.length c2)
  k3 : w.cell? ⟨p, 3, none⟩ = some (.int .i64 d.wrong.kind)
  k4 : w.cell? ⟨p, 4, none⟩ = some (.int .i64 d.wrong.n)
  k5 : w.cell? ⟨p, 5, none⟩ = some (.string d.wrong.s)
  k6 : w.cell? ⟨p, 6, none⟩ = some (.slice a3 d.wrong.args.length c3)
  h1 : IntsC w I d.args a1 c1
  h2 : SlC w I d.terms a2 c2
  h3 : SlC w I d.wrong.args a3 c3
  blk : ∃ cs T, w.heap[p]? = some (.cells cs T (0, 0)) ∧ cs.size = 7
theorem DidC.val {w : World} {I : Nat → Prop} {d : DidS} {p : Nat} {a1 : Option Addr} {c1 : Nat} {a2 : Option Addr} {c2 : Nat} {a3 : Option Addr} {c3 : Nat} (h : DidC w I d p a1 c1 a2 c2 a3 c3) : DidV w I d (didVal d a1 c1 a2 c2 a3 c3) :=
  ⟨a1, c1, a2, c2, a3, c3, rfl, h.h1, h.h2, h.h3⟩
theorem IntsC.there {w : World} {I : Nat → Prop} {l : List Int} {a : Option Addr} {c : Nat} (ht : IntsC w I l a c) : IntsC w (fun b => I b ∧ b < w.heap.size) l a c :=
  ⟨ht.1, fun hl => by
    obtain ⟨b, o, ha, hi, hc⟩ := ht.2 hl
    obtain ⟨u, hu⟩ : ∃ u, l[0]? = some u := ⟨l[0], List.getElem?_eq_getElem hl⟩
    exact ⟨b, o, ha, ⟨hi, World.block_lt_of_cell? w _ (hc 0 u hu)⟩, hc⟩⟩
/-- Seven cells written. -/
abbrev put7 (w : World) (p : Nat) (v0 v1 v2 v3 v4 v5 v6 : Value) : World :=
  ((((((w.setCell ⟨p, 0, none⟩ v0).setCell ⟨p, 1, none⟩ v1).setCell ⟨p, 2, none⟩ v2).setCell ⟨p, 3, none⟩ v3).setCell ⟨p, 4, none⟩ v4).setCell ⟨p, 5, none⟩ v5).setCell ⟨p, 6, none⟩ v6
theorem put7_fr (w : World) (p : Nat) (v0 v1 v2 v3 v4 v5 v6 : Value) : Fr (· = p) w (put7 w p v0 v1 v2 v3 v4 v5 v6) :=
  ((((((Fr.set1 _ _ _ _).trans (Fr.set1 _ _ _ _)).trans (Fr.set1 _ _ _ _)).trans (Fr.set1 _ _ _ _)).trans (Fr.set1 _ _ _ _)).trans (Fr.set1 _ _ _ _)).trans (Fr.set1 _ _ _ _)
/-- Stored into a block of seven cells. -/
theorem DidC.put {w : World} {I : Nat → Prop} {d : DidS} {p : Nat} {a1 : Option Addr} {c1 : Nat} {a2 : Option Addr} {c2 : Nat} {a3 : Option Addr} {c3 : Nat} {cs : Array Value} {T : TypeId} (hp : w.heap[p]? = some (.cells cs T (0, 0))) (hcs : cs.size = 7)
    (h1 : IntsC w I d.args a1 c1) (h2 : SlC w I d.terms a2 c2) (h3 : SlC w I d.wrong.args a3 c3) (hI : ∀ b, I b → b < w.heap.size → b ≠ p) :
    DidC (put7 w p (.bool d.ok) (.slice a1 d.args.length c1) (.slice a2 d.terms.length c2) (.int .i64 d.wrong.kind) (.int .i64 d.wrong.n) (.string d.wrong.s) (.slice a3 d.wrong.args.length c3)) I d p a1 c1 a2 c2 a3 c3 := by
  have hf := put7_fr w p (.bool d.ok) (.slice a1 d.args.length c1) (.slice a2 d.terms.length c2) (.int .i64 d.wrong.kind) (.int .i64 d.wrong.n) (.string d.wrong.s) (.slice a3 d.wrong.args.length c3)
  obtain ⟨l⟩ := cs
  match l, hcs with
  | [x0, x1, x2, x3, x4, x5, x6], _ => ?_
  have hb : (put7 w p (.bool d.ok) (.slice a1 d.args.length c1) (.slice a2 d.terms.length c2) (.int .i64 d.wrong.kind) (.int .i64 d.wrong.n) (.string d.wrong.s) (.slice a3 d.wrong.args.length c3)).heap[p]? = some (.cells #[.bool d.ok, .slice a1 d.args.length c1, .slice a2 d.terms.length c2, .int .i64 d.wrong.kind, .int .i64 d.wrong.n, .string d.wrong.s, .slice a3 d.wrong.args.length c3] T (0, 0)) := by
    have := heap_set (i := 6) (v := .slice a3 d.wrong.args.length c3) (heap_set (i := 5) (v := .string d.wrong.s) (heap_set (i := 4) (v := .int .i64 d.wrong.n) (heap_set (i := 3) (v := .int .i64 d.wrong.kind) (heap_set (i := 2) (v := .slice a2 d.terms.length c2) (heap_set (i := 1) (v := .slice a1 d.args.length c1) (heap_set (i := 0) (v := .bool d.ok) hp))))))
    simpa [put7] using this
  have hk : ∀ b, I b ∧ b < w.heap.size → ¬ b = p := fun b hb => hI b hb.1 hb.2
  refine ⟨by simpa using cell_of_block hb 0 (by simp), by simpa using cell_of_block hb 1 (by simp), by simpa using cell_of_block hb 2 (by simp), by simpa using cell_of_block hb 3 (by simp), by simpa using cell_of_block hb 4 (by simp), by simpa using cell_of_block hb 5 (by simp), by simpa using cell_of_block hb 6 (by simp), ?_, ?_, ?_, ⟨_, _, hb, rfl⟩⟩
  · exact (h1.there.keep fun b hb hl => hf.block b hl (hk b hb)).mono fun b hb => hb.1
  · exact (h2.there.fr hf hk).mono fun b hb => hb.1
  · exact (h3.there.fr hf hk).mono fun b hb => hb.1
/-- The cells of a block of a zero Did, and that they may be written. -/
theorem zd_facts {w : World} {p : Nat} {T : TypeId} (h : w.heap[p]? = some (.cells #[.bool false, .slice none 0 0, .slice none 0 0, .int .i64 0, .int .i64 0, .string ⟨#[]⟩, .slice none 0 0] T (0, 0))) :
    (w.cell? ⟨p, 0, none⟩ = some (.bool false) ∧ w.cell? ⟨p, 1, none⟩ = some (.slice none 0 0) ∧ w.cell? ⟨p, 2, none⟩ = some (.slice none 0 0) ∧ w.cell? ⟨p, 3, none⟩ = some (.int .i64 0) ∧ w.cell? ⟨p, 4, none⟩ = some (.int .i64 0) ∧ w.cell? ⟨p, 5, none⟩ = some (.string ⟨#[]⟩) ∧ w.cell? ⟨p, 6, none⟩ = some (.slice none 0 0)) ∧
    (w.frozen? ⟨p, 0, none⟩ = false ∧ w.frozen? ⟨p, 1, none⟩ = false ∧ w.frozen? ⟨p, 2, none⟩ = false ∧ w.frozen? ⟨p, 3, none⟩ = false ∧ w.frozen? ⟨p, 4, none⟩ = false ∧ w.frozen? ⟨p, 5, none⟩ = false ∧ w.frozen? ⟨p, 6, none⟩ = false) :=
  ⟨⟨by simpa using cell_of_block h 0 (by simp), by simpa using cell_of_block h 1 (by simp), by simpa using cell_of_block h 2 (by simp), by simpa using cell_of_block h 3 (by simp), by simpa using cell_of_block h 4 (by simp), by simpa using cell_of_block h 5 (by simp), by simpa using cell_of_block h 6 (by simp)⟩,
    ⟨frozen_of_block h 0, frozen_of_block h 1, frozen_of_block h 2, frozen_of_block h 3, frozen_of_block h 4, frozen_of_block h 5, frozen_of_block h 6⟩⟩
/-- For go_region_held3: what lay there lies there; blocks below N. -/
theorem kp_keep {N : Nat} {W0 w w' : World} (h : (∀ a : Addr, a.block < N → w.cell? a = W0.cell? a) ∧ Hid (Below N W0 w ∧ N ≤ w.heap.size)) (hb : Below w.heap.size w w') :
    (∀ a : Addr, a.block < N → w'.cell? a = W0.cell? a) ∧ Hid (Below N W0 w' ∧ N ≤ w'.heap.size) :=
  have k := h.2.out
  have e : Below N W0 w' := k.1.trans (hb.mono k.2)
  ⟨fun _ ha => e.cell ha, ⟨e, Nat.le_trans k.2 hb.size⟩⟩
theorem kp_alloc {N : Nat} {W0 w : World} {o : Obj} (h : (∀ a : Addr, a.block < N → w.cell? a = W0.cell? a) ∧ Hid (Below N W0 w ∧ N ≤ w.heap.size)) :
    (∀ a : Addr, a.block < N → (w.alloc o).cell? a = W0.cell? a) ∧ Hid (Below N W0 (w.alloc o) ∧ N ≤ (w.alloc o).heap.size) := kp_keep h ((Below.refl _ _).alloc (Nat.le_refl _) _)
theorem kp_ad {N : Nat} {W0 w : World} {o : Obj} (h : (∀ a : Addr, a.block < N → w.drew.cell? a = W0.cell? a) ∧ Hid (Below N W0 w.drew ∧ N ≤ w.drew.heap.size)) :
    (∀ a : Addr, a.block < N → (w.alloc o).drew.cell? a = W0.cell? a) ∧ Hid (Below N W0 (w.alloc o).drew ∧ N ≤ (w.alloc o).drew.heap.size) := kp_alloc (w := w.drew) h
theorem kp_sl {N : Nat} {W0 w : World} {I : Nat → Prop} {ts : List Tm} {a : Option Addr} {c : Nat} (hs : SlC W0 (fun b => I b ∧ b < N) ts a c) (h : (∀ a : Addr, a.block < N → w.cell? a = W0.cell? a) ∧ Hid (Below N W0 w ∧ N ≤ w.heap.size)) :
    SlC w (fun b => I b ∧ b < N) ts a c := hs.keep fun b hb _ => h.2.out.1.block b hb.2
theorem kp_start {N : Nat} {W0 : World} (h : W0.heap.size = N) : (∀ a : Addr, a.block < N → W0.drew.cell? a = W0.cell? a) ∧ Hid (Below N W0 W0.drew ∧ N ≤ W0.drew.heap.size) :=
  ⟨fun _ _ => rfl, ⟨(Below.refl _ _).drew, Nat.le_of_eq h.symm⟩⟩
theorem kp_fr {N : Nat} {W0 w w' : World} {p : Nat} (h : (∀ a : Addr, a.block < N → w.cell? a = W0.cell? a) ∧ Hid (Below N W0 w ∧ N ≤ w.heap.size)) (hb : Fr (· = p) w w') (hp : N ≤ p) :
    (∀ a : Addr, a.block < N → w'.cell? a = W0.cell? a) ∧ Hid (Below N W0 w' ∧ N ≤ w'.heap.size) :=
  have k := h.2.out
  have e : Below N W0 w' := k.1.trans (hb.below k.2 fun k hk => hk ▸ hp)
  ⟨fun _ ha => e.cell ha, ⟨e, Nat.le_trans k.2 hb.size⟩⟩
theorem kp_put7 {N : Nat} {W0 w : World} {p : Nat} {v0 v1 v2 v3 v4 v5 v6 : Value} (h : (∀ a : Addr, a.block < N → w.cell? a = W0.cell? a) ∧ Hid (Below N W0 w ∧ N ≤ w.heap.size)) (hp : N ≤ p) :
    (∀ a : Addr, a.block < N → (put7 w p v0 v1 v2 v3 v4 v5 v6).cell? a = W0.cell? a) ∧ Hid (Below N W0 (put7 w p v0 v1 v2 v3 v4 v5 v6) ∧ N ≤ (put7 w p v0 v1 v2 v3 v4 v5 v6).heap.size) :=
  kp_fr h (put7_fr _ _ _ _ _ _ _ _ _) hp
theorem kp_re {N : Nat} {W0 w : World} {o o' : Obj} (h : (∀ a : Addr, a.block < N → (w.alloc o).cell? a = W0.cell? a) ∧ Hid (Below N W0 (w.alloc o) ∧ N ≤ (w.alloc o).heap.size)) (hl : N ≤ w.heap.size) :
    (∀ a : Addr, a.block < N → (w.alloc o').cell? a = W0.cell? a) ∧ Hid (Below N W0 (w.alloc o') ∧ N ≤ (w.alloc o').heap.size) :=
  have k := h.2.out
  have e : Below N W0 (w.alloc o') := ⟨k.1.os, k.1.tape, k.1.output, by have := k.1.size; simp only [World.size_alloc] at this ⊢; exact this, fun i hi => ((Below.heap_alloc w o' i (by omega)).trans (Below.heap_alloc w o i (by omega)).symm).trans (k.1.block i hi)⟩
  ⟨fun _ ha => e.cell ha, ⟨e, by simp only [World.size_alloc]; omega⟩⟩

/-- Behind 'd, e := text.Do(..)': the Did lies in a block from N on; below N all is as in W0. -/
structure DidRel (N : Nat) (W0 : World) (d : DidS) (s5 s6 : Value) (wc : World) : Prop where
  e6 : s6 = .int .i64 0
  ex : ∃ p a1 c1 a2 c2 a3 c3, s5 = .pointer (some ⟨p, 0, none⟩) ∧ p < wc.heap.size ∧ N ≤ p ∧ DidC wc (fun b => N ≤ b ∧ b ≠ p) d p a1 c1 a2 c2 a3 c3
  be : Below N W0 wc
theorem DidC.mono {w : World} {I J : Nat → Prop} {d : DidS} {p : Nat} {a1 : Option Addr} {c1 : Nat} {a2 : Option Addr} {c2 : Nat} {a3 : Option Addr} {c3 : Nat} (h : DidC w I d p a1 c1 a2 c2 a3 c3) (hi : ∀ b, I b → J b) : DidC w J d p a1 c1 a2 c2 a3 c3 :=
  ⟨h.k0, h.k1, h.k2, h.k3, h.k4, h.k5, h.k6, h.h1.mono hi, h.h2.mono hi, h.h3.mono hi, h.blk⟩
theorem DidC.keep {w w' : World} {I : Nat → Prop} {d : DidS} {p : Nat} {a1 : Option Addr} {c1 : Nat} {a2 : Option Addr} {c2 : Nat} {a3 : Option Addr} {c3 : Nat} (h : DidC w I d p a1 c1 a2 c2 a3 c3) (hb : Below w.heap.size w w') : DidC w' I d p a1 c1 a2 c2 a3 c3 :=
  ⟨keep_below hb h.k0, keep_below hb h.k1, keep_below hb h.k2, keep_below hb h.k3, keep_below hb h.k4, keep_below hb h.k5, keep_below hb h.k6, h.h1.keep fun b _ hl => hb.block b hl, h.h2.below hb, h.h3.below hb, let ⟨cs, T, hp, hs⟩ := h.blk; ⟨cs, T, (hb.block p (Array.getElem?_eq_some_iff.1 hp).1).trans hp, hs⟩⟩
/-- The Did is stored into its block, or the block is made with it. -/
theorem DidC.put' {w : World} {d : DidS} {p Y N : Nat} {a1 : Option Addr} {c1 : Nat} {a2 : Option Addr} {c2 : Nat} {a3 : Option Addr} {c3 : Nat} {cs : Array Value} {T : TypeId} (hp : w.heap[p]? = some (.cells cs T (0, 0))) (hcs : cs.size = 7)
    (hD : IntsC w (fun b => Y ≤ b) d.args a1 c1 ∧ SlC w (fun b => Y ≤ b) d.terms a2 c2 ∧ SlC w (fun b => Y ≤ b) d.wrong.args a3 c3) (hpY : p < Y) (hN : N ≤ Y) :
    DidC (put7 w p (.bool d.ok) (.slice a1 d.args.length c1) (.slice a2 d.terms.length c2) (.int .i64 d.wrong.kind) (.int .i64 d.wrong.n) (.string d.wrong.s) (.slice a3 d.wrong.args.length c3)) (fun b => N ≤ b ∧ b ≠ p) d p a1 c1 a2 c2 a3 c3 :=
  (DidC.put hp hcs hD.1 hD.2.1 hD.2.2 (fun b hb _ => by omega)).mono fun b hb => by omega
theorem DidC.new' {w : World} {d : DidS} {Y N : Nat} {a1 : Option Addr} {c1 : Nat} {a2 : Option Addr} {c2 : Nat} {a3 : Option Addr} {c3 : Nat} {T : TypeId}
    (hD : IntsC w (fun b => Y ≤ b) d.args a1 c1 ∧ SlC w (fun b => Y ≤ b) d.terms a2 c2 ∧ SlC w (fun b => Y ≤ b) d.wrong.args a3 c3) (hY : N ≤ Y) :
    DidC (w.alloc (.cells #[.bool d.ok, .slice a1 d.args.length c1, .slice a2 d.terms.length c2, .int .i64 d.wrong.kind, .int .i64 d.wrong.n, .string d.wrong.s, .slice a3 d.wrong.args.length c3] T)) (fun b => N ≤ b ∧ b ≠ w.heap.size) d w.heap.size a1 c1 a2 c2 a3 c3 := by
  have hn := heap_alloc_new w (.cells #[.bool d.ok, .slice a1 d.args.length c1, .slice a2 d.terms.length c2, .int .i64 d.wrong.kind, .int .i64 d.wrong.n, .string d.wrong.s, .slice a3 d.wrong.args.length c3] T)
  have hal : Below w.heap.size w (w.alloc (.cells #[.bool d.ok, .slice a1 d.args.length c1, .slice a2 d.terms.length c2, .int .i64 d.wrong.kind, .int .i64 d.wrong.n, .string d.wrong.s, .slice a3 d.wrong.args.length c3] T)) := (Below.refl _ _).alloc (Nat.le_refl _) _
  refine ⟨cell_of_block hn 0 (by simp), cell_of_block hn 1 (by simp), cell_of_block hn 2 (by simp), cell_of_block hn 3 (by simp), cell_of_block hn 4 (by simp), cell_of_block hn 5 (by simp), cell_of_block hn 6 (by simp), ?_, ?_, ?_, ⟨_, _, hn, rfl⟩⟩
  · exact (hD.1.there.keep fun b _ hl => hal.block b hl).mono fun b hb => by omega
  · exact (hD.2.1.there.below hal).mono fun b hb => by omega
  · exact (hD.2.2.there.below hal).mono fun b hb => by omega
/-- The same for a region that stores into one block P that lay there. -/
theorem kq_start {N P : Nat} {W0 : World} (h : W0.heap.size = N) : (∀ a : Addr, a.block < N → a.block ≠ P → W0.drew.cell? a = W0.cell? a) ∧ Hid (Fr (· = P) W0 W0.drew ∧ N ≤ W0.drew.heap.size) :=
  ⟨fun _ _ _ => rfl, ⟨Fr.drew _ _, Nat.le_of_eq h.symm⟩⟩
theorem kq_of {N P : Nat} {W0 w' : World} (hN : W0.heap.size = N) (k : Fr (· = P) W0 w') : (∀ a : Addr, a.block < N → a.block ≠ P → w'.cell? a = W0.cell? a) ∧ Hid (Fr (· = P) W0 w' ∧ N ≤ w'.heap.size) :=
  ⟨fun a ha hp => World.cell?_of_block (w := W0) (k.block a.block (by omega) hp), ⟨k, by have := k.size; omega⟩⟩
theorem kq_keep {N P : Nat} {W0 w w' : World} (hN : W0.heap.size = N) (h : (∀ a : Addr, a.block < N → a.block ≠ P → w.cell? a = W0.cell? a) ∧ Hid (Fr (· = P) W0 w ∧ N ≤ w.heap.size)) (hb : Below w.heap.size w w') :
    (∀ a : Addr, a.block < N → a.block ≠ P → w'.cell? a = W0.cell? a) ∧ Hid (Fr (· = P) W0 w' ∧ N ≤ w'.heap.size) := kq_of hN (h.2.out.1.trans (Fr.of_below hb))
theorem kq_alloc {N P : Nat} {W0 w : World} {o : Obj} (hN : W0.heap.size = N) (h : (∀ a : Addr, a.block < N → a.block ≠ P → w.cell? a = W0.cell? a) ∧ Hid (Fr (· = P) W0 w ∧ N ≤ w.heap.size)) :
    (∀ a : Addr, a.block < N → a.block ≠ P → (w.alloc o).cell? a = W0.cell? a) ∧ Hid (Fr (· = P) W0 (w.alloc o) ∧ N ≤ (w.alloc o).heap.size) := kq_of hN (h.2.out.1.trans (Fr.alloc _ _ _))
theorem kq_ad {N P : Nat} {W0 w : World} {o : Obj} (hN : W0.heap.size = N) (h : (∀ a : Addr, a.block < N → a.block ≠ P → w.drew.cell? a = W0.cell? a) ∧ Hid (Fr (· = P) W0 w.drew ∧ N ≤ w.drew.heap.size)) :
    (∀ a : Addr, a.block < N → a.block ≠ P → (w.alloc o).drew.cell? a = W0.cell? a) ∧ Hid (Fr (· = P) W0 (w.alloc o).drew ∧ N ≤ (w.alloc o).drew.heap.size) := kq_of hN (h.2.out.1.trans (Fr.alloc _ w.drew o))
theorem kq_put7 {N P : Nat} {W0 w : World} {v0 v1 v2 v3 v4 v5 v6 : Value} (hN : W0.heap.size = N) (h : (∀ a : Addr, a.block < N → a.block ≠ P → w.cell? a = W0.cell? a) ∧ Hid (Fr (· = P) W0 w ∧ N ≤ w.heap.size)) :
    (∀ a : Addr, a.block < N → a.block ≠ P → (put7 w P v0 v1 v2 v3 v4 v5 v6).cell? a = W0.cell? a) ∧ Hid (Fr (· = P) W0 (put7 w P v0 v1 v2 v3 v4 v5 v6) ∧ N ≤ (put7 w P v0 v1 v2 v3 v4 v5 v6).heap.size) :=
  kq_of hN (h.2.out.1.trans (put7_fr _ _ _ _ _ _ _ _ _))
theorem kq_sl {N P : Nat} {W0 w : World} {I : Nat → Prop} {ts : List Tm} {a : Option Addr} {c : Nat} (hs : SlC W0 (fun b => I b ∧ b ≠ P) ts a c) (h : (∀ a : Addr, a.block < N → a.block ≠ P → w.cell? a = W0.cell? a) ∧ Hid (Fr (· = P) W0 w ∧ N ≤ w.heap.size)) :
    SlC w (fun b => I b ∧ b ≠ P) ts a c := hs.fr h.2.out.1 fun b hb e => hb.2 e
end Go.Proofs.YtkjkckdjenjgdaaDoor
