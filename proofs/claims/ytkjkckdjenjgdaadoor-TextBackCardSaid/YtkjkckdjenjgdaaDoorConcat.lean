/- The walk over text's concat, of two atoms. -/
import Derived.Test.YtkjkckdjenjgdaaDoorText
namespace Go.Proofs.YtkjkckdjenjgdaaDoor
open Go Go.RowKit

structure ConcatRel (w : World) (c3 c4 c5 : Array Value) (s3 s4 s5 : Value) (wc : World) : Prop where
  ex : ∃ p3 p4 p5, Box w wc s3 p3 c3 28 ∧ Box w wc s4 p4 c4 28 ∧ Box w wc s5 p5 c5 28
  fr : Fr (fun _ => False) w wc
  res : wc.heap[w.heap.size + 1]? = some (.cells zeroDid 35 (0, 0))

set_option maxHeartbeats 4000000 in
/-- 'atom_concat' of two atoms and a variable. -/
theorem concat_atoms (s t : ByteArray) (b o cap : Nat) (w : World) (I : Nat → Prop) (hs : s.size + t.size ≤ 1000)
    (h : TmsC w I [atomT s, atomT t, varT 0] b o) :
    Calls Tryd.prog 28 #[.agg #[.slice (some ⟨b, o, none⟩) 3 cap]] w fun e w' => Ret (fun v w' => DidV w' (fun b => w.heap.size ≤ b) (didIs 2 (atomT (s ++ t))) v ∧ Below w.heap.size w w') e w' := by
  obtain ⟨a0, p0, x0, x1, x2, x3, _⟩ := h.cells 0 (by simp)
  obtain ⟨a1, p1, y0, y1, y2, y3, _⟩ := h.cells 1 (by simp)
  obtain ⟨a2, p2, z0, z1, z2, z3, _⟩ := h.cells 2 (by simp)
  simp only [List.getElem_cons_zero, List.getElem_cons_succ, atomT, varT, Tm.kind, Tm.n, Tm.s, Tm.args, Nat.zero_mul, Nat.one_mul, Nat.reduceMul, Nat.add_zero, List.length_nil, Nat.add_assoc, Nat.reduceAdd] at x0 x1 x2 x3 y0 y1 y2 y3 z0 z1 z2 z3
  clear h
  have hb := World.block_lt_of_cell? w _ x0
  simp only at hb
  have hb1 : b < w.heap.size + 1 := by omega
  have hb2 : b < w.heap.size + 1 + 1 := by omega
  have hb3 : b < w.heap.size + 1 + 1 + 1 := by omega
  have hb4 : b < w.heap.size + 1 + 1 + 1 + 1 := by omega
  go_enter Tryd.func28, Tryd.ntmps28
  go_upto_region 1 with (fail)
  go_cut [3, 4, 5] (fun s3 s4 s5 wc => ConcatRel w #[.int .i64 3, .int .i64 0, .string s, .slice a0 0 p0] #[.int .i64 3, .int .i64 0, .string t, .slice a1 0 p1] #[.int .i64 1, .int .i64 0, .string ⟨#[]⟩, .slice a2 0 p2] s3 s4 s5 wc)
  case first =>
    obtain ⟨W, hW⟩ : ∃ W, W = ((w.alloc (.cells #[.slice (some ⟨b, o, none⟩) 3 cap] 58)).alloc (.cells #[.bool false, .slice none 0 0, .slice none 0 0, .int .i64 0, .int .i64 0, .string ⟨#[]⟩, .slice none 0 0] 35)) := ⟨_, rfl⟩
    have hfr : Fr (fun _ => False) w W := by rw [hW]; exact (Fr.alloc _ w _).trans (Fr.alloc _ _ _)
    have v0 : W.cell? ⟨w.heap.size, 0, none⟩ = some (.slice (some ⟨b, o, none⟩) 3 cap) := by rw [hW]; go_simp
    have hWs : W.heap.size = w.heap.size + 2 := by rw [hW]; simp
    have x0' := hfr.cell x0 id
    have x1' := hfr.cell x1 id
    have x2' := hfr.cell x2 id
    have x3' := hfr.cell x3 id
    have y0' := hfr.cell y0 id
    have y1' := hfr.cell y1 id
    have y2' := hfr.cell y2 id
    have y3' := hfr.cell y3 id
    have z0' := hfr.cell z0 id
    have z1' := hfr.cell z1 id
    have z2' := hfr.cell z2 id
    have z3' := hfr.cell z3 id
    have lb : b < W.heap.size := by omega
    have lb1 : b < W.heap.size + 1 := by omega
    have lb2 : b < W.heap.size + 1 + 1 := by omega
    have lx : w.heap.size < W.heap.size := by omega
    have lx1 : w.heap.size < W.heap.size + 1 := by omega
    have lx2 : w.heap.size < W.heap.size + 1 + 1 := by omega
    have nb0 : ¬ b = W.heap.size := by omega
    have nb1 : ¬ b = W.heap.size + 1 := by omega
    have nb2 : ¬ b = W.heap.size + 1 + 1 := by omega
    have nb3 : ¬ b = W.heap.size + 2 := by omega
    have nx0 : ¬ w.heap.size = W.heap.size := by omega
    have nx1 : ¬ w.heap.size = W.heap.size + 1 := by omega
    have nx2 : ¬ w.heap.size = W.heap.size + 1 + 1 := by omega
    have nx3 : ¬ w.heap.size = W.heap.size + 2 := by omega
    have lb3 : b < W.heap.size + 2 := by omega
    have lx3 : w.heap.size < W.heap.size + 2 := by omega
    have hres : W.heap[w.heap.size + 1]? = some (.cells zeroDid 35 (0, 0)) := by rw [hW]; ((try rw [drew_heap]); (repeat (first | assumption | exact heap_new' (by first | omega | (simp only [World.size_alloc, World.size_setCell, World.size_drew]; done) | (simp only [World.size_alloc, World.size_setCell, World.size_drew]; omega)) | refine heap_old' (by first | omega | (simp only [World.size_alloc, World.size_setCell, World.size_drew]; done) | (simp only [World.size_alloc, World.size_setCell, World.size_drew]; omega)) ?_)))
    have HF := Lib.hid (And.intro hfr (And.intro hWs hres))
    rw [← hW]
    clear hW hfr hWs x0 x1 x2 x3 y0 y1 y2 y3 z0 z1 z2 z3 hb hb1 hb2 hb3 hb4
    go_region_held3 (fun w' => w'.cell? ⟨w.heap.size, 0, none⟩ = some (.slice (some ⟨b, o, none⟩) 3 cap) ∧
      w'.cell? ⟨b, o, none⟩ = some (.int .i64 3) ∧ w'.cell? ⟨b, o + 1, none⟩ = some (.int .i64 0) ∧ w'.cell? ⟨b, o + 2, none⟩ = some (.string s) ∧ w'.cell? ⟨b, o + 3, none⟩ = some (.slice a0 0 p0) ∧
      w'.cell? ⟨b, o + 4, none⟩ = some (.int .i64 3) ∧ w'.cell? ⟨b, o + 5, none⟩ = some (.int .i64 0) ∧ w'.cell? ⟨b, o + 6, none⟩ = some (.string t) ∧ w'.cell? ⟨b, o + 7, none⟩ = some (.slice a1 0 p1) ∧
      w'.cell? ⟨b, o + 8, none⟩ = some (.int .i64 1) ∧ w'.cell? ⟨b, o + 9, none⟩ = some (.int .i64 0) ∧ w'.cell? ⟨b, o + 10, none⟩ = some (.string ⟨#[]⟩) ∧ w'.cell? ⟨b, o + 11, none⟩ = some (.slice a2 0 p2))
      (first | (refine ⟨?_, ?_, ?_, ?_, ?_, ?_, ?_, ?_, ?_, ?_, ?_, ?_, ?_⟩ <;> (repeat (with_reducible (first | assumption | refine keep_alloc ?_ | refine keep_drew ?_ | refine keep_set ?_ (by simp; omega)))); done)) ((fail))
    all_goals
      go_wp2_with fail
      go_meet
      case rel =>
        obtain ⟨hfr, hWs, hres⟩ := HF.out
        refine ⟨⟨_, _, _, ⟨rfl, by omega, (by simp; try omega), (by ((try rw [drew_heap]); (repeat (first | assumption | exact heap_new' (by first | omega | (simp only [World.size_alloc, World.size_setCell, World.size_drew]; done) | (simp only [World.size_alloc, World.size_setCell, World.size_drew]; omega)) | refine heap_old' (by first | omega | (simp only [World.size_alloc, World.size_setCell, World.size_drew]; done) | (simp only [World.size_alloc, World.size_setCell, World.size_drew]; omega)) ?_))))⟩, ⟨rfl, by omega, (by simp; try omega), (by ((try rw [drew_heap]); (repeat (first | assumption | exact heap_new' (by first | omega | (simp only [World.size_alloc, World.size_setCell, World.size_drew]; done) | (simp only [World.size_alloc, World.size_setCell, World.size_drew]; omega)) | refine heap_old' (by first | omega | (simp only [World.size_alloc, World.size_setCell, World.size_drew]; done) | (simp only [World.size_alloc, World.size_setCell, World.size_drew]; omega)) ?_))))⟩, ⟨rfl, by omega, (by simp; try omega), (by ((try rw [drew_heap]); (repeat (first | assumption | exact heap_new' (by first | omega | (simp only [World.size_alloc, World.size_setCell, World.size_drew]; done) | (simp only [World.size_alloc, World.size_setCell, World.size_drew]; omega)) | refine heap_old' (by first | omega | (simp only [World.size_alloc, World.size_setCell, World.size_drew]; done) | (simp only [World.size_alloc, World.size_setCell, World.size_drew]; omega)) ?_))))⟩⟩, (((hfr.trans (Fr.alloc _ _ _)).trans (Fr.alloc _ _ _)).trans (Fr.alloc _ _ _)).trans (Fr.drew _ _), ?_⟩
        have : w.heap.size + 1 < W.heap.size := by omega
        ((try rw [drew_heap]); (repeat (first | assumption | exact heap_new' (by first | omega | (simp only [World.size_alloc, World.size_setCell, World.size_drew]; done) | (simp only [World.size_alloc, World.size_setCell, World.size_drew]; omega)) | refine heap_old' (by first | omega | (simp only [World.size_alloc, World.size_setCell, World.size_drew]; done) | (simp only [World.size_alloc, World.size_setCell, World.size_drew]; omega)) ?_)))
  case rest =>
    obtain ⟨⟨p3, p4, p5, ⟨rfl, l3, m3, k3⟩, ⟨rfl, l4, m4, k4⟩, ⟨rfl, l5, m5, k5⟩⟩, hfr, hres⟩ := hcut
    have u0 := cell_of_block k3 0 (by simp)
    simp only [List.getElem_toArray, List.getElem_cons_zero, List.getElem_cons_succ] at u0
    have u1 := cell_of_block k3 1 (by simp)
    simp only [List.getElem_toArray, List.getElem_cons_zero, List.getElem_cons_succ] at u1
    have u2 := cell_of_block k3 2 (by simp)
    simp only [List.getElem_toArray, List.getElem_cons_zero, List.getElem_cons_succ] at u2
    have u3 := cell_of_block k3 3 (by simp)
    simp only [List.getElem_toArray, List.getElem_cons_zero, List.getElem_cons_succ] at u3
    have v0 := cell_of_block k4 0 (by simp)
    simp only [List.getElem_toArray, List.getElem_cons_zero, List.getElem_cons_succ] at v0
    have v1 := cell_of_block k4 1 (by simp)
    simp only [List.getElem_toArray, List.getElem_cons_zero, List.getElem_cons_succ] at v1
    have v2 := cell_of_block k4 2 (by simp)
    simp only [List.getElem_toArray, List.getElem_cons_zero, List.getElem_cons_succ] at v2
    have v3 := cell_of_block k4 3 (by simp)
    simp only [List.getElem_toArray, List.getElem_cons_zero, List.getElem_cons_succ] at v3
    have q0 := cell_of_block k5 0 (by simp)
    simp only [List.getElem_toArray, List.getElem_cons_zero, List.getElem_cons_succ] at q0
    have q1 := cell_of_block k5 1 (by simp)
    simp only [List.getElem_toArray, List.getElem_cons_zero, List.getElem_cons_succ] at q1
    have q2 := cell_of_block k5 2 (by simp)
    simp only [List.getElem_toArray, List.getElem_cons_zero, List.getElem_cons_succ] at q2
    have q3 := cell_of_block k5 3 (by simp)
    simp only [List.getElem_toArray, List.getElem_cons_zero, List.getElem_cons_succ] at q3
    have hres0 := cell_of_block hres 0 (by decide)
    have HF := Lib.hid (And.intro hfr hres)
    clear hfr hres k3 k4 k5 x0 x1 x2 x3 y0 y1 y2 y3 z0 z1 z2 z3 hb hb1 hb2 hb3 hb4 hres0
    go_wp2_with fail
    refine (nameOf_atom _ _ _ _ _ _).mono ?_
    rintro e w1 ⟨rfl, hb1⟩
    have v0' := (hb1.cell (p := ⟨p4, 0, none⟩) m4).trans v0
    have v1' := (hb1.cell (p := ⟨p4, 1, none⟩) m4).trans v1
    have v2' := (hb1.cell (p := ⟨p4, 2, none⟩) m4).trans v2
    have v3' := (hb1.cell (p := ⟨p4, 3, none⟩) m4).trans v3
    have q0' := (hb1.cell (p := ⟨p5, 0, none⟩) m5).trans q0
    have q1' := (hb1.cell (p := ⟨p5, 1, none⟩) m5).trans q1
    have q2' := (hb1.cell (p := ⟨p5, 2, none⟩) m5).trans q2
    have q3' := (hb1.cell (p := ⟨p5, 3, none⟩) m5).trans q3
    have u0' := (hb1.cell (p := ⟨p3, 0, none⟩) m3).trans u0
    clear u0 u1 u2 u3 v0 v1 v2 v3 q0 q1 q2 q3
    have m4' : p4 < w1.heap.size := Nat.lt_of_lt_of_le m4 hb1.size
    have m5' : p5 < w1.heap.size := Nat.lt_of_lt_of_le m5 hb1.size
    have m3' : p3 < w1.heap.size := Nat.lt_of_lt_of_le m3 hb1.size
    have B1 := Lib.hid hb1
    clear hb1
    dsimp only [Act.put]
    go_wp2_with fail
    refine (nameOf_atom _ _ _ _ _ _).mono ?_
    rintro e w2 ⟨rfl, hb2⟩
    have q0 := (hb2.cell (p := ⟨p5, 0, none⟩) m5').trans q0'
    have q1 := (hb2.cell (p := ⟨p5, 1, none⟩) m5').trans q1'
    have q2 := (hb2.cell (p := ⟨p5, 2, none⟩) m5').trans q2'
    have q3 := (hb2.cell (p := ⟨p5, 3, none⟩) m5').trans q3'
    have u0 := (hb2.cell (p := ⟨p3, 0, none⟩) m3').trans u0'
    have v0 := (hb2.cell (p := ⟨p4, 0, none⟩) m4').trans v0'
    clear q0' q1' q2' q3' u0' v0' v1' v2' v3'
    have m4 : p4 < w2.heap.size := Nat.lt_of_lt_of_le m4' hb2.size
    have m5 : p5 < w2.heap.size := Nat.lt_of_lt_of_le m5' hb2.size
    have m3 : p3 < w2.heap.size := Nat.lt_of_lt_of_le m3' hb2.size
    have B2 := Lib.hid hb2
    clear hb2 m3' m4' m5'
    dsimp only [Act.put]
    go_wp2_with fail
    refine (nameOf_none _ _ _ _ _ _ _ rfl rfl).mono ?_
    rintro e w3 ⟨rfl, hb3⟩
    have q0' := (hb3.cell (p := ⟨p5, 0, none⟩) m5).trans q0
    have u0' := (hb3.cell (p := ⟨p3, 0, none⟩) m3).trans u0
    have v0' := (hb3.cell (p := ⟨p4, 0, none⟩) m4).trans v0
    clear q0 q1 q2 q3 u0 v0
    have B3 := Lib.hid hb3
    clear hb3
    dsimp only [Act.put]
    go_wp2_with fail
    refine (atom_any _ _).mono ?_
    rintro e w4 ⟨rfl, hb4⟩
    dsimp only [Act.put, tmVal, atomT, Tm.kind, Tm.n, Tm.s, Tm.args, List.length_nil]
    go_wp2_with fail
    refine (is_any 2 (atomT (s ++ t)) none 0 _ (fun _ => False) ⟨Nat.le_refl _, by simp [atomT, Tm.args]⟩).mono ?_
    rintro e w5 ⟨_, rfl, ⟨a1, c1, a2', c2, a3, c3, rfl, hi1, hi2, hi3⟩, hb5⟩
    obtain ⟨hfr, hres⟩ := HF.out
    have hb1 := B1.out
    have hb2 := B2.out
    have hb3 := B3.out
    have hall : Below w.heap.size w w5 := (hfr.below (Nat.le_refl _) fun _ h => h.elim).trans ((hb1.mono hfr.size).trans ((hb2.mono (Nat.le_trans hfr.size hb1.size)).trans ((hb3.mono (Nat.le_trans hfr.size (Nat.le_trans hb1.size hb2.size))).trans
      ((hb4.mono (Nat.le_trans hfr.size (Nat.le_trans hb1.size (Nat.le_trans hb2.size hb3.size)))).trans (hb5.mono (Nat.le_trans hfr.size (Nat.le_trans hb1.size (Nat.le_trans hb2.size (Nat.le_trans hb3.size hb4.size)))))))))
    have hrl : w.heap.size + 1 < wc.heap.size := (Array.getElem?_eq_some_iff.1 hres).1
    have hres5 : w5.heap[w.heap.size + 1]? = some (.cells zeroDid 35 (0, 0)) := by
      have s1 := hb1.size
      have s2 := hb2.size
      have s3 := hb3.size
      have s4 := hb4.size
      rw [hb5.block _ (by omega), hb4.block _ (by omega), hb3.block _ (by omega), hb2.block _ (by omega), hb1.block _ (by omega)]
      exact hres
    have hI5 : ∀ b, (False ∨ w4.heap.size ≤ b) → b ≠ w.heap.size + 1 := by
      have s1 := hb1.size
      have s2 := hb2.size
      have s3 := hb3.size
      have s4 := hb4.size
      intro b hb; rcases hb with hb | hb; exact hb.elim; omega
    have hI6 : ∀ b, (False ∨ w4.heap.size ≤ b) → w.heap.size ≤ b := by
      have s0 := hfr.size
      have s1 := hb1.size
      have s2 := hb2.size
      have s3 := hb3.size
      have s4 := hb4.size
      intro b hb; rcases hb with hb | hb; exact hb.elim; omega
    have r0 := cell_of_block hres5 0 (by decide)
    have r1 := cell_of_block hres5 1 (by decide)
    have r2 := cell_of_block hres5 2 (by decide)
    have r3 := cell_of_block hres5 3 (by decide)
    have r4 := cell_of_block hres5 4 (by decide)
    have r5 := cell_of_block hres5 5 (by decide)
    have r6 := cell_of_block hres5 6 (by decide)
    have f0 := frozen_of_block hres5 0
    have f1 := frozen_of_block hres5 1
    have f2 := frozen_of_block hres5 2
    have f3 := frozen_of_block hres5 3
    have f4 := frozen_of_block hres5 4
    have f5 := frozen_of_block hres5 5
    have f6 := frozen_of_block hres5 6
    have hw5 := (Array.getElem?_eq_some_iff.1 hres5).1
    have HE := Lib.hid (And.intro hi1 (And.intro hi2 (And.intro hi3 (And.intro hall (And.intro hI5 hI6)))))
    clear hi1 hi2 hi3 hall hb1 hb2 hb3 hb4 hb5 hfr hres hI5 hI6 q0' u0' v0' hres5
    dsimp only [Act.put, didVal, didIs, noT, atomT, Tm.kind, Tm.n, Tm.s, Tm.args, List.length_nil, List.length_cons]
    go_wp2_with fail
    refine bodyPost_ret (v := didVal (didIs 2 (atomT (s ++ t))) a1 c1 a2' c2 a3 c3) (by simp only [results, Tryd.results28, didVal, didIs, noT, atomT, Tm.kind, Tm.n, Tm.s, Tm.args, List.length_nil, List.length_cons]; go_simp) rfl ?_
    obtain ⟨hi1, hi2, hi3, hall, hI5, hI6⟩ := HE.out
    have hset : Fr (· = w.heap.size + 1) w5 (((((((w5.setCell ⟨w.heap.size + 1, 0, none⟩ (.bool true)).setCell ⟨w.heap.size + 1, 1, none⟩ (.slice a1 1 c1)).setCell ⟨w.heap.size + 1, 2, none⟩ (.slice a2' 1 c2)).setCell ⟨w.heap.size + 1, 3, none⟩ (.int .i64 0)).setCell ⟨w.heap.size + 1, 4, none⟩ (.int .i64 0)).setCell ⟨w.heap.size + 1, 5, none⟩ (.string ⟨#[]⟩)).setCell ⟨w.heap.size + 1, 6, none⟩ (.slice a3 0 c3)) :=
      ((((((Fr.set1 _ _ _ _).trans (Fr.set1 _ _ _ _)).trans (Fr.set1 _ _ _ _)).trans (Fr.set1 _ _ _ _)).trans (Fr.set1 _ _ _ _)).trans (Fr.set1 _ _ _ _)).trans (Fr.set1 _ _ _ _)
    refine ⟨_, rfl, ⟨a1, c1, a2', c2, a3, c3, rfl, ?_, ?_, ?_⟩, hall.trans (hset.below hall.size fun k hk => by omega)⟩
    · exact (hi1.keep fun b hb hl => hset.block b hl (hI5 b hb)).mono hI6
    · exact (hi2.fr hset hI5).mono hI6
    · exact (hi3.fr hset hI5).mono hI6
end Go.Proofs.YtkjkckdjenjgdaaDoor
