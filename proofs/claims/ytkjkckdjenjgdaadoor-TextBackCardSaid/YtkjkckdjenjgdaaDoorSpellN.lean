/- The walks over text.call's spell, chars and codes, of an atom; text.Do of such a row. -/
import Derived.Test.YtkjkckdjenjgdaaDoorListOf
namespace Go.Proofs.YtkjkckdjenjgdaaDoor
open Go Go.RowKit

set_option maxHeartbeats 4000000 in
theorem spell_name_chars (s : ByteArray) (t1 : Tm) (b o cap : Nat) (w : World) (I : Nat → Prop) (h : TmsC w I [atomT s, t1] b o) (hs : s.size ≤ 1000000) :
    Calls Tryd.prog 38 #[.agg #[.slice (some ⟨b, o, none⟩) 2 cap], .bool false] w fun e w' => Ret (fun v w' => DidV w' (fun b => w.heap.size ≤ b) (didIs 1 (lst false s.data.toList)) v ∧ Below w.heap.size w w') e w' := by
  obtain ⟨t0, ht0⟩ : ∃ t0, t0 = atomT s := ⟨_, rfl⟩
  rw [← ht0] at h
  obtain ⟨a0, p0, x0, x1, x2, x3, _⟩ := h.cells 0 (by simp)
  obtain ⟨a1, p1, y0, y1, y2, y3, _⟩ := h.cells 1 (by simp)
  simp only [List.getElem_cons_zero, List.getElem_cons_succ, Nat.zero_mul, Nat.one_mul, Nat.add_zero, Nat.add_assoc, Nat.reduceAdd] at x0 x1 x2 x3 y0 y1 y2 y3
  clear h
  have hb := World.block_lt_of_cell? w _ x0
  simp only at hb
  have HT := Lib.hid (And.intro ht0 hs)
  clear ht0 hs
  obtain ⟨Tk, Tn, Ts, Ta, hT⟩ : ∃ k n z l, Tm.mk k n z l = lst false s.data.toList := ⟨_, _, _, _, Tm.eta _⟩
  rw [← hT]
  have HTT := Lib.hid hT
  clear hT
  go_enter Tryd.func38, Tryd.ntmps38
  go_upto_region 1 with (fail)
  go_cut [5, 6] (fun s3 s4 wc => TwoRel w #[.int .i64 t0.kind, .int .i64 t0.n, .string t0.s, .slice a0 t0.args.length p0] #[.int .i64 t1.kind, .int .i64 t1.n, .string t1.s, .slice a1 t1.args.length p1] s3 s4 wc)
  case first =>
    obtain ⟨W, hW⟩ : ∃ W, W = ((w.alloc (.cells #[.slice (some ⟨b, o, none⟩) 2 cap] 58)).alloc (.cells #[.bool false, .slice none 0 0, .slice none 0 0, .int .i64 0, .int .i64 0, .string ⟨#[]⟩, .slice none 0 0] 35)) := ⟨_, rfl⟩
    have hfr : Fr (fun _ => False) w W := by rw [hW]; exact (Fr.alloc _ w _).trans (Fr.alloc _ _ _)
    have v0 : W.cell? ⟨w.heap.size, 0, none⟩ = some (.slice (some ⟨b, o, none⟩) 2 cap) := by rw [hW]; go_simp
    have hWs : W.heap.size = w.heap.size + 2 := by rw [hW]; simp
    have x0' := hfr.cell x0 id
    have x1' := hfr.cell x1 id
    have x2' := hfr.cell x2 id
    have x3' := hfr.cell x3 id
    have y0' := hfr.cell y0 id
    have y1' := hfr.cell y1 id
    have y2' := hfr.cell y2 id
    have y3' := hfr.cell y3 id
    have lb : b < W.heap.size := by omega
    have lb1 : b < W.heap.size + 1 := by omega
    have lx : w.heap.size < W.heap.size := by omega
    have lx1 : w.heap.size < W.heap.size + 1 := by omega
    have nb0 : ¬ b = W.heap.size := by omega
    have nb1 : ¬ b = W.heap.size + 1 := by omega
    have nx0 : ¬ w.heap.size = W.heap.size := by omega
    have nx1 : ¬ w.heap.size = W.heap.size + 1 := by omega
    have hres : W.heap[w.heap.size + 1]? = some (.cells zeroDid 35 (0, 0)) := by rw [hW]; ((try rw [drew_heap]); (repeat (first | assumption | exact heap_new' (by first | omega | (simp only [World.size_alloc, World.size_setCell, World.size_drew]; done) | (simp only [World.size_alloc, World.size_setCell, World.size_drew]; omega)) | refine heap_old' (by first | omega | (simp only [World.size_alloc, World.size_setCell, World.size_drew]; done) | (simp only [World.size_alloc, World.size_setCell, World.size_drew]; omega)) ?_)))
    have HF := Lib.hid (And.intro hfr (And.intro hWs hres))
    rw [← hW]
    clear hW hfr hWs x0 x1 x2 x3 y0 y1 y2 y3 hb hres
    go_region_held3 (fun w' => w'.cell? ⟨w.heap.size, 0, none⟩ = some (.slice (some ⟨b, o, none⟩) 2 cap) ∧
      w'.cell? ⟨b, o, none⟩ = some (.int .i64 t0.kind) ∧ w'.cell? ⟨b, o + 1, none⟩ = some (.int .i64 t0.n) ∧ w'.cell? ⟨b, o + 2, none⟩ = some (.string t0.s) ∧ w'.cell? ⟨b, o + 3, none⟩ = some (.slice a0 t0.args.length p0) ∧
      w'.cell? ⟨b, o + 4, none⟩ = some (.int .i64 t1.kind) ∧ w'.cell? ⟨b, o + 5, none⟩ = some (.int .i64 t1.n) ∧ w'.cell? ⟨b, o + 6, none⟩ = some (.string t1.s) ∧ w'.cell? ⟨b, o + 7, none⟩ = some (.slice a1 t1.args.length p1))
      (first | (refine ⟨?_, ?_, ?_, ?_, ?_, ?_, ?_, ?_, ?_⟩ <;> (repeat (with_reducible (first | assumption | refine keep_alloc ?_ | refine keep_drew ?_ | refine keep_set ?_ (by simp; omega)))); done)) ((fail))
    all_goals
      go_wp2_with fail
      go_meet
      case rel =>
        obtain ⟨hfr, hWs, hres⟩ := HF.out
        refine ⟨⟨_, _, ⟨rfl, by omega, (by simp; try omega), (by ((try rw [drew_heap]); (repeat (first | assumption | exact heap_new' (by first | omega | (simp only [World.size_alloc, World.size_setCell, World.size_drew]; done) | (simp only [World.size_alloc, World.size_setCell, World.size_drew]; omega)) | refine heap_old' (by first | omega | (simp only [World.size_alloc, World.size_setCell, World.size_drew]; done) | (simp only [World.size_alloc, World.size_setCell, World.size_drew]; omega)) ?_))))⟩, ⟨rfl, by omega, (by simp; try omega), (by ((try rw [drew_heap]); (repeat (first | assumption | exact heap_new' (by first | omega | (simp only [World.size_alloc, World.size_setCell, World.size_drew]; done) | (simp only [World.size_alloc, World.size_setCell, World.size_drew]; omega)) | refine heap_old' (by first | omega | (simp only [World.size_alloc, World.size_setCell, World.size_drew]; done) | (simp only [World.size_alloc, World.size_setCell, World.size_drew]; omega)) ?_))))⟩⟩, ((hfr.trans (Fr.alloc _ _ _)).trans (Fr.alloc _ _ _)).trans (Fr.drew _ _), ?_⟩
        have : w.heap.size + 1 < W.heap.size := by omega
        ((try rw [drew_heap]); (repeat (first | assumption | exact heap_new' (by first | omega | (simp only [World.size_alloc, World.size_setCell, World.size_drew]; done) | (simp only [World.size_alloc, World.size_setCell, World.size_drew]; omega)) | refine heap_old' (by first | omega | (simp only [World.size_alloc, World.size_setCell, World.size_drew]; done) | (simp only [World.size_alloc, World.size_setCell, World.size_drew]; omega)) ?_)))
  case rest =>
    obtain ⟨⟨p3, p4, ⟨rfl, l3, m3, k3⟩, ⟨rfl, l4, m4, k4⟩⟩, hfr, hres⟩ := hcut
    obtain ⟨rfl, hs⟩ := HT.out
    simp only [atomT, Tm.kind, Tm.n, Tm.s, Tm.args, List.length_nil] at k3
    clear x0 x1 x2 x3 y0 y1 y2 y3
    have u0 := cell_of_block k3 0 (by simp)
    simp only [List.getElem_toArray, List.getElem_cons_zero, List.getElem_cons_succ] at u0
    have u1 := cell_of_block k3 1 (by simp)
    simp only [List.getElem_toArray, List.getElem_cons_zero, List.getElem_cons_succ] at u1
    have u2 := cell_of_block k3 2 (by simp)
    simp only [List.getElem_toArray, List.getElem_cons_zero, List.getElem_cons_succ] at u2
    have u3 := cell_of_block k3 3 (by simp)
    simp only [List.getElem_toArray, List.getElem_cons_zero, List.getElem_cons_succ] at u3
    have v0 := cell_of_block k4 0 (by simp)
    simp only [List.getElem_toArray, List.getElem_cons_zero, List.getElem_cons_succ] at v0
    have v1 := cell_of_block k4 1 (by simp)
    simp only [List.getElem_toArray, List.getElem_cons_zero, List.getElem_cons_succ] at v1
    have v2 := cell_of_block k4 2 (by simp)
    simp only [List.getElem_toArray, List.getElem_cons_zero, List.getElem_cons_succ] at v2
    have v3 := cell_of_block k4 3 (by simp)
    simp only [List.getElem_toArray, List.getElem_cons_zero, List.getElem_cons_succ] at v3
    simp only [zeroDid] at hres
    have HF := Lib.hid (And.intro hfr hres)
    clear hfr hres k3 k4 hb
    go_wp2_with fail
    refine (nameOf_atom _ _ _ _ _ _).mono ?_
    rintro e w1 ⟨rfl, hb1⟩
    have B1 := Lib.hid hb1
    clear u0 u1 u2 u3 v0 v1 v2 v3 hb1
    dsimp only [Act.put]
    go_wp2_with fail
    have hh := listOf_chars s w1 hs
    rw [← HTT.out] at hh
    (with_reducible refine Calls.mono hh ?_)
    clear hh
    rintro e w3 ⟨_, rfl, ⟨a, c, rfl, hsl⟩, hb3⟩
    have B3 := Lib.hid hb3
    have HSL := Lib.hid hsl
    clear hb3 hsl
    dsimp only [Act.put, tmVal]
    go_wp2_with fail
    refine (is_any 1 (.mk Tk Tn Ts Ta) a c _ _ HSL.out).mono ?_
    rintro e w5 ⟨_, rfl, ⟨a1, c1, a2', c2, a3, c3, rfl, hi1, hi2, hi3⟩, hb5⟩
    obtain ⟨hfr, hres⟩ := HF.out
    have hb1 := B1.out
    have hb3 := B3.out
    have s1 := hb1.size
    have s3 := hb3.size
    have s0 := hfr.size
    have hrl : w.heap.size + 1 < wc.heap.size := (Array.getElem?_eq_some_iff.1 hres).1
    have hall : Below w.heap.size w w5 := (hfr.below (Nat.le_refl _) fun _ h => h.elim).trans ((hb1.mono s0).trans ((hb3.mono (by omega)).trans (hb5.mono (by omega))))
    have hres5 : w5.heap[w.heap.size + 1]? = some (.cells zeroDid 35 (0, 0)) := by
      rw [hb5.block _ (by omega), hb3.block _ (by omega), hb1.block _ (by omega)]
      exact hres
    have hJ : ∀ b, (w1.heap.size ≤ b ∨ w3.heap.size ≤ b) → w.heap.size + 2 ≤ b := by
      intro b hb; omega
    clear hb1 hb3 hb5 hfr hres s0 s1 s3 HF B1 B3 HT HSL
    simp only [zeroDid] at hres5
    have r0 := cell_of_block hres5 0 (by simp)
    simp only [List.getElem_toArray, List.getElem_cons_zero, List.getElem_cons_succ] at r0
    have f0 := frozen_of_block hres5 0
    have r1 := cell_of_block hres5 1 (by simp)
    simp only [List.getElem_toArray, List.getElem_cons_zero, List.getElem_cons_succ] at r1
    have f1 := frozen_of_block hres5 1
    have r2 := cell_of_block hres5 2 (by simp)
    simp only [List.getElem_toArray, List.getElem_cons_zero, List.getElem_cons_succ] at r2
    have f2 := frozen_of_block hres5 2
    have r3 := cell_of_block hres5 3 (by simp)
    simp only [List.getElem_toArray, List.getElem_cons_zero, List.getElem_cons_succ] at r3
    have f3 := frozen_of_block hres5 3
    have r4 := cell_of_block hres5 4 (by simp)
    simp only [List.getElem_toArray, List.getElem_cons_zero, List.getElem_cons_succ] at r4
    have f4 := frozen_of_block hres5 4
    have r5 := cell_of_block hres5 5 (by simp)
    simp only [List.getElem_toArray, List.getElem_cons_zero, List.getElem_cons_succ] at r5
    have f5 := frozen_of_block hres5 5
    have r6 := cell_of_block hres5 6 (by simp)
    simp only [List.getElem_toArray, List.getElem_cons_zero, List.getElem_cons_succ] at r6
    have f6 := frozen_of_block hres5 6
    have hw5 := (Array.getElem?_eq_some_iff.1 hres5).1
    have HE := Lib.hid (And.intro hi1 (And.intro hi2 (And.intro hi3 (And.intro hall hJ))))
    clear hi1 hi2 hi3 hall hres5 hJ
    dsimp only [Act.put, didVal, didIs, noT, Tm.kind, Tm.n, Tm.s, Tm.args, List.length_nil, List.length_cons]
    go_wp2_with fail
    refine bodyPost_ret (v := didVal (didIs 1 (.mk Tk Tn Ts Ta)) a1 c1 a2' c2 a3 c3) (by simp only [results, Tryd.results38, didVal, didIs, noT, Tm.kind, Tm.n, Tm.s, Tm.args, List.length_nil, List.length_cons]; go_simp) rfl ?_
    obtain ⟨hi1, hi2, hi3, hall, hJ⟩ := HE.out
    have hset : Fr (· = w.heap.size + 1) w5 (((((((w5.setCell ⟨w.heap.size + 1, 0, none⟩ (.bool true)).setCell ⟨w.heap.size + 1, 1, none⟩ (.slice a1 1 c1)).setCell ⟨w.heap.size + 1, 2, none⟩ (.slice a2' 1 c2)).setCell ⟨w.heap.size + 1, 3, none⟩ (.int .i64 0)).setCell ⟨w.heap.size + 1, 4, none⟩ (.int .i64 0)).setCell ⟨w.heap.size + 1, 5, none⟩ (.string ⟨#[]⟩)).setCell ⟨w.heap.size + 1, 6, none⟩ (.slice a3 0 c3)) :=
      ((((((Fr.set1 _ _ _ _).trans (Fr.set1 _ _ _ _)).trans (Fr.set1 _ _ _ _)).trans (Fr.set1 _ _ _ _)).trans (Fr.set1 _ _ _ _)).trans (Fr.set1 _ _ _ _)).trans (Fr.set1 _ _ _ _)
    refine ⟨_, rfl, ⟨a1, c1, a2', c2, a3, c3, rfl, ?_, ?_, ?_⟩, hall.trans (hset.below hall.size fun k hk => by omega)⟩
    · exact (hi1.keep fun b hb hl => hset.block b hl (by have := hJ b hb; omega)).mono fun b hb => by have := hJ b hb; omega
    · exact (hi2.fr hset fun b hb => by have := hJ b hb; omega).mono fun b hb => by have := hJ b hb; omega
    · exact (hi3.fr hset fun b hb => by have := hJ b hb; omega).mono fun b hb => by have := hJ b hb; omega
set_option maxHeartbeats 1000000 in
theorem chars_name (s : ByteArray) (t1 : Tm) (b o cap : Nat) (w : World) (I : Nat → Prop) (h : TmsC w I [atomT s, t1] b o) (hs : s.size ≤ 1000000) :
    Calls Tryd.prog 24 #[.agg #[.slice (some ⟨b, o, none⟩) 2 cap]] w fun e w' => Ret (fun v w' => DidV w' (fun b => w.heap.size ≤ b) (didIs 1 (lst false s.data.toList)) v ∧ Below w.heap.size w w') e w' := by
  have HX := Lib.hid (And.intro h hs)
  clear h hs
  obtain ⟨Tk, Tn, Ts, Ta, hT⟩ : ∃ k n z l, Tm.mk k n z l = lst false s.data.toList := ⟨_, _, _, _, Tm.eta _⟩
  rw [← hT]
  have HTT := Lib.hid hT
  clear hT
  go_enter Tryd.func24, Tryd.ntmps24
  go_wp2_with fail
  have hw2 : Below w.heap.size w ((w.alloc (.cells #[.slice (some ⟨b, o, none⟩) 2 cap] 58)).alloc (.cells zeroDid 35)) := ((Below.refl _ w).alloc (Nat.le_refl _) _).alloc (by simp) _
  have hh := spell_name_chars s t1 b o cap _ _ (TmsC.keep (fun b _ hl => hw2.block b hl) _ b o HX.out.1) HX.out.2
  rw [← HTT.out] at hh
  simp only [zeroDid] at hh
  (with_reducible refine Calls.mono hh ?_)
  clear hh hw2
  rintro e w5 ⟨_, rfl, ⟨a1, c1, a2', c2, a3, c3, rfl, hi1, hi2, hi3⟩, hb5⟩
  simp only [World.size_alloc] at hb5 hi1 hi2 hi3
  have hall : Below w.heap.size w w5 := (((Below.refl _ w).alloc (Nat.le_refl _) _).alloc (by simp) _).trans (hb5.mono (by omega))
  have hres5 : w5.heap[w.heap.size + 1]? = some (.cells zeroDid 35 (0, 0)) := by
    rw [hb5.block _ (by omega)]
    exact heap_new' (by simp)
  have hJ : ∀ b, w.heap.size + 1 + 1 ≤ b → w.heap.size + 2 ≤ b := fun b hb => hb
  clear hb5
  simp only [zeroDid] at hres5
  have r0 := cell_of_block hres5 0 (by simp)
  simp only [List.getElem_toArray, List.getElem_cons_zero, List.getElem_cons_succ] at r0
  have f0 := frozen_of_block hres5 0
  have r1 := cell_of_block hres5 1 (by simp)
  simp only [List.getElem_toArray, List.getElem_cons_zero, List.getElem_cons_succ] at r1
  have f1 := frozen_of_block hres5 1
  have r2 := cell_of_block hres5 2 (by simp)
  simp only [List.getElem_toArray, List.getElem_cons_zero, List.getElem_cons_succ] at r2
  have f2 := frozen_of_block hres5 2
  have r3 := cell_of_block hres5 3 (by simp)
  simp only [List.getElem_toArray, List.getElem_cons_zero, List.getElem_cons_succ] at r3
  have f3 := frozen_of_block hres5 3
  have r4 := cell_of_block hres5 4 (by simp)
  simp only [List.getElem_toArray, List.getElem_cons_zero, List.getElem_cons_succ] at r4
  have f4 := frozen_of_block hres5 4
  have r5 := cell_of_block hres5 5 (by simp)
  simp only [List.getElem_toArray, List.getElem_cons_zero, List.getElem_cons_succ] at r5
  have f5 := frozen_of_block hres5 5
  have r6 := cell_of_block hres5 6 (by simp)
  simp only [List.getElem_toArray, List.getElem_cons_zero, List.getElem_cons_succ] at r6
  have f6 := frozen_of_block hres5 6
  have hw5 := (Array.getElem?_eq_some_iff.1 hres5).1
  have HE := Lib.hid (And.intro hi1 (And.intro hi2 (And.intro hi3 (And.intro hall hJ))))
  clear hi1 hi2 hi3 hall hres5 hJ
  dsimp only [Act.put, didVal, didIs, noT, Tm.kind, Tm.n, Tm.s, Tm.args, List.length_nil, List.length_cons]
  go_wp2_with fail
  refine bodyPost_ret (v := didVal (didIs 1 (.mk Tk Tn Ts Ta)) a1 c1 a2' c2 a3 c3) (by simp only [results, Tryd.results24, didVal, didIs, noT, Tm.kind, Tm.n, Tm.s, Tm.args, List.length_nil, List.length_cons]; go_simp) rfl ?_
  obtain ⟨hi1, hi2, hi3, hall, hJ⟩ := HE.out
  have hset : Fr (· = w.heap.size + 1) w5 (((((((w5.setCell ⟨w.heap.size + 1, 0, none⟩ (.bool true)).setCell ⟨w.heap.size + 1, 1, none⟩ (.slice a1 1 c1)).setCell ⟨w.heap.size + 1, 2, none⟩ (.slice a2' 1 c2)).setCell ⟨w.heap.size + 1, 3, none⟩ (.int .i64 0)).setCell ⟨w.heap.size + 1, 4, none⟩ (.int .i64 0)).setCell ⟨w.heap.size + 1, 5, none⟩ (.string ⟨#[]⟩)).setCell ⟨w.heap.size + 1, 6, none⟩ (.slice a3 0 c3)) :=
    ((((((Fr.set1 _ _ _ _).trans (Fr.set1 _ _ _ _)).trans (Fr.set1 _ _ _ _)).trans (Fr.set1 _ _ _ _)).trans (Fr.set1 _ _ _ _)).trans (Fr.set1 _ _ _ _)).trans (Fr.set1 _ _ _ _)
  refine ⟨_, rfl, ⟨a1, c1, a2', c2, a3, c3, rfl, ?_, ?_, ?_⟩, hall.trans (hset.below hall.size fun k hk => by omega)⟩
  · exact (hi1.keep fun b hb hl => hset.block b hl (by have := hJ b hb; omega)).mono fun b hb => by have := hJ b hb; omega
  · exact (hi2.fr hset fun b hb => by have := hJ b hb; omega).mono fun b hb => by have := hJ b hb; omega
  · exact (hi3.fr hset fun b hb => by have := hJ b hb; omega).mono fun b hb => by have := hJ b hb; omega
theorem do_chars_name (s : ByteArray) (n : Int) (a1 a2 : Option Addr) (c1 c2 B : Nat) (Y : World) (hs : s.size ≤ 1000) (hn : 0 ≤ n)
    (h : Y.heap[B]? = some (.cells #[.int .i64 3, .int .i64 0, .string s, .slice a1 0 c1, .int .i64 1, .int .i64 n, .string ⟨#[]⟩, .slice a2 0 c2] 28 (0, 0))) :
    Calls Tryd.prog 10 #[.string nmChars, .slice (some ⟨B, 0, none⟩) 2 2] Y fun e w' => Ret (fun v w' => ∃ dv, v = .tuple #[dv, .int .i64 0] ∧ DidV w' (fun b => Y.heap.size ≤ b) (didIs 1 (lst false s.data.toList)) dv ∧ Below Y.heap.size Y w') e w' := by
  have hT : TmsC Y (fun _ => True) [atomT s, varT n] B 0 := by
    have hnil : ∀ (a : Option Addr) (c : Nat), SlC Y (fun _ => True) [] a c := fun a c => ⟨Nat.zero_le _, fun h => by simp at h⟩
    simp only [TmsC, and_true]
    exact ⟨TmC.iff.2 ⟨trivial, cell_of_block h 0 (by simp), cell_of_block h 1 (by simp), cell_of_block h 2 (by simp), a1, c1, cell_of_block h 3 (by simp), hnil _ _⟩,
      TmC.iff.2 ⟨trivial, cell_of_block h 4 (by simp), cell_of_block h 5 (by simp), cell_of_block h 6 (by simp), a2, c2, cell_of_block h 7 (by simp), hnil _ _⟩⟩
  refine do_chars _ B 0 2 Y _ _ rfl hT (by simp) ?_ fun w' hw' => chars_name s _ B 0 2 w' _ hw' (by omega)
  intro x hx
  simp only [List.mem_cons, List.not_mem_nil, or_false] at hx
  rcases hx with rfl | rfl
  · exact check_leaf rfl (may_atom _ (by omega))
  · exact check_leaf rfl (may_var _ hn)

set_option maxHeartbeats 4000000 in
theorem spell_name_codes (s : ByteArray) (t1 : Tm) (b o cap : Nat) (w : World) (I : Nat → Prop) (h : TmsC w I [atomT s, t1] b o) (hs : s.size ≤ 1000000) :
    Calls Tryd.prog 38 #[.agg #[.slice (some ⟨b, o, none⟩) 2 cap], .bool true] w fun e w' => Ret (fun v w' => DidV w' (fun b => w.heap.size ≤ b) (didIs 1 (lst true s.data.toList)) v ∧ Below w.heap.size w w') e w' := by
  obtain ⟨t0, ht0⟩ : ∃ t0, t0 = atomT s := ⟨_, rfl⟩
  rw [← ht0] at h
  obtain ⟨a0, p0, x0, x1, x2, x3, _⟩ := h.cells 0 (by simp)
  obtain ⟨a1, p1, y0, y1, y2, y3, _⟩ := h.cells 1 (by simp)
  simp only [List.getElem_cons_zero, List.getElem_cons_succ, Nat.zero_mul, Nat.one_mul, Nat.add_zero, Nat.add_assoc, Nat.reduceAdd] at x0 x1 x2 x3 y0 y1 y2 y3
  clear h
  have hb := World.block_lt_of_cell? w _ x0
  simp only at hb
  have HT := Lib.hid (And.intro ht0 hs)
  clear ht0 hs
  obtain ⟨Tk, Tn, Ts, Ta, hT⟩ : ∃ k n z l, Tm.mk k n z l = lst true s.data.toList := ⟨_, _, _, _, Tm.eta _⟩
  rw [← hT]
  have HTT := Lib.hid hT
  clear hT
  go_enter Tryd.func38, Tryd.ntmps38
  go_upto_region 1 with (fail)
  go_cut [5, 6] (fun s3 s4 wc => TwoRel w #[.int .i64 t0.kind, .int .i64 t0.n, .string t0.s, .slice a0 t0.args.length p0] #[.int .i64 t1.kind, .int .i64 t1.n, .string t1.s, .slice a1 t1.args.length p1] s3 s4 wc)
  case first =>
    obtain ⟨W, hW⟩ : ∃ W, W = ((w.alloc (.cells #[.slice (some ⟨b, o, none⟩) 2 cap] 58)).alloc (.cells #[.bool false, .slice none 0 0, .slice none 0 0, .int .i64 0, .int .i64 0, .string ⟨#[]⟩, .slice none 0 0] 35)) := ⟨_, rfl⟩
    have hfr : Fr (fun _ => False) w W := by rw [hW]; exact (Fr.alloc _ w _).trans (Fr.alloc _ _ _)
    have v0 : W.cell? ⟨w.heap.size, 0, none⟩ = some (.slice (some ⟨b, o, none⟩) 2 cap) := by rw [hW]; go_simp
    have hWs : W.heap.size = w.heap.size + 2 := by rw [hW]; simp
    have x0' := hfr.cell x0 id
    have x1' := hfr.cell x1 id
    have x2' := hfr.cell x2 id
    have x3' := hfr.cell x3 id
    have y0' := hfr.cell y0 id
    have y1' := hfr.cell y1 id
    have y2' := hfr.cell y2 id
    have y3' := hfr.cell y3 id
    have lb : b < W.heap.size := by omega
    have lb1 : b < W.heap.size + 1 := by omega
    have lx : w.heap.size < W.heap.size := by omega
    have lx1 : w.heap.size < W.heap.size + 1 := by omega
    have nb0 : ¬ b = W.heap.size := by omega
    have nb1 : ¬ b = W.heap.size + 1 := by omega
    have nx0 : ¬ w.heap.size = W.heap.size := by omega
    have nx1 : ¬ w.heap.size = W.heap.size + 1 := by omega
    have hres : W.heap[w.heap.size + 1]? = some (.cells zeroDid 35 (0, 0)) := by rw [hW]; ((try rw [drew_heap]); (repeat (first | assumption | exact heap_new' (by first | omega | (simp only [World.size_alloc, World.size_setCell, World.size_drew]; done) | (simp only [World.size_alloc, World.size_setCell, World.size_drew]; omega)) | refine heap_old' (by first | omega | (simp only [World.size_alloc, World.size_setCell, World.size_drew]; done) | (simp only [World.size_alloc, World.size_setCell, World.size_drew]; omega)) ?_)))
    have HF := Lib.hid (And.intro hfr (And.intro hWs hres))
    rw [← hW]
    clear hW hfr hWs x0 x1 x2 x3 y0 y1 y2 y3 hb hres
    go_region_held3 (fun w' => w'.cell? ⟨w.heap.size, 0, none⟩ = some (.slice (some ⟨b, o, none⟩) 2 cap) ∧
      w'.cell? ⟨b, o, none⟩ = some (.int .i64 t0.kind) ∧ w'.cell? ⟨b, o + 1, none⟩ = some (.int .i64 t0.n) ∧ w'.cell? ⟨b, o + 2, none⟩ = some (.string t0.s) ∧ w'.cell? ⟨b, o + 3, none⟩ = some (.slice a0 t0.args.length p0) ∧
      w'.cell? ⟨b, o + 4, none⟩ = some (.int .i64 t1.kind) ∧ w'.cell? ⟨b, o + 5, none⟩ = some (.int .i64 t1.n) ∧ w'.cell? ⟨b, o + 6, none⟩ = some (.string t1.s) ∧ w'.cell? ⟨b, o + 7, none⟩ = some (.slice a1 t1.args.length p1))
      (first | (refine ⟨?_, ?_, ?_, ?_, ?_, ?_, ?_, ?_, ?_⟩ <;> (repeat (with_reducible (first | assumption | refine keep_alloc ?_ | refine keep_drew ?_ | refine keep_set ?_ (by simp; omega)))); done)) ((fail))
    all_goals
      go_wp2_with fail
      go_meet
      case rel =>
        obtain ⟨hfr, hWs, hres⟩ := HF.out
        refine ⟨⟨_, _, ⟨rfl, by omega, (by simp; try omega), (by ((try rw [drew_heap]); (repeat (first | assumption | exact heap_new' (by first | omega | (simp only [World.size_alloc, World.size_setCell, World.size_drew]; done) | (simp only [World.size_alloc, World.size_setCell, World.size_drew]; omega)) | refine heap_old' (by first | omega | (simp only [World.size_alloc, World.size_setCell, World.size_drew]; done) | (simp only [World.size_alloc, World.size_setCell, World.size_drew]; omega)) ?_))))⟩, ⟨rfl, by omega, (by simp; try omega), (by ((try rw [drew_heap]); (repeat (first | assumption | exact heap_new' (by first | omega | (simp only [World.size_alloc, World.size_setCell, World.size_drew]; done) | (simp only [World.size_alloc, World.size_setCell, World.size_drew]; omega)) | refine heap_old' (by first | omega | (simp only [World.size_alloc, World.size_setCell, World.size_drew]; done) | (simp only [World.size_alloc, World.size_setCell, World.size_drew]; omega)) ?_))))⟩⟩, ((hfr.trans (Fr.alloc _ _ _)).trans (Fr.alloc _ _ _)).trans (Fr.drew _ _), ?_⟩
        have : w.heap.size + 1 < W.heap.size := by omega
        ((try rw [drew_heap]); (repeat (first | assumption | exact heap_new' (by first | omega | (simp only [World.size_alloc, World.size_setCell, World.size_drew]; done) | (simp only [World.size_alloc, World.size_setCell, World.size_drew]; omega)) | refine heap_old' (by first | omega | (simp only [World.size_alloc, World.size_setCell, World.size_drew]; done) | (simp only [World.size_alloc, World.size_setCell, World.size_drew]; omega)) ?_)))
  case rest =>
    obtain ⟨⟨p3, p4, ⟨rfl, l3, m3, k3⟩, ⟨rfl, l4, m4, k4⟩⟩, hfr, hres⟩ := hcut
    obtain ⟨rfl, hs⟩ := HT.out
    simp only [atomT, Tm.kind, Tm.n, Tm.s, Tm.args, List.length_nil] at k3
    clear x0 x1 x2 x3 y0 y1 y2 y3
    have u0 := cell_of_block k3 0 (by simp)
    simp only [List.getElem_toArray, List.getElem_cons_zero, List.getElem_cons_succ] at u0
    have u1 := cell_of_block k3 1 (by simp)
    simp only [List.getElem_toArray, List.getElem_cons_zero, List.getElem_cons_succ] at u1
    have u2 := cell_of_block k3 2 (by simp)
    simp only [List.getElem_toArray, List.getElem_cons_zero, List.getElem_cons_succ] at u2
    have u3 := cell_of_block k3 3 (by simp)
    simp only [List.getElem_toArray, List.getElem_cons_zero, List.getElem_cons_succ] at u3
    have v0 := cell_of_block k4 0 (by simp)
    simp only [List.getElem_toArray, List.getElem_cons_zero, List.getElem_cons_succ] at v0
    have v1 := cell_of_block k4 1 (by simp)
    simp only [List.getElem_toArray, List.getElem_cons_zero, List.getElem_cons_succ] at v1
    have v2 := cell_of_block k4 2 (by simp)
    simp only [List.getElem_toArray, List.getElem_cons_zero, List.getElem_cons_succ] at v2
    have v3 := cell_of_block k4 3 (by simp)
    simp only [List.getElem_toArray, List.getElem_cons_zero, List.getElem_cons_succ] at v3
    simp only [zeroDid] at hres
    have HF := Lib.hid (And.intro hfr hres)
    clear hfr hres k3 k4 hb
    go_wp2_with fail
    refine (nameOf_atom _ _ _ _ _ _).mono ?_
    rintro e w1 ⟨rfl, hb1⟩
    have B1 := Lib.hid hb1
    clear u0 u1 u2 u3 v0 v1 v2 v3 hb1
    dsimp only [Act.put]
    go_wp2_with fail
    have hh := listOf_codes s w1 hs
    rw [← HTT.out] at hh
    (with_reducible refine Calls.mono hh ?_)
    clear hh
    rintro e w3 ⟨_, rfl, ⟨a, c, rfl, hsl⟩, hb3⟩
    have B3 := Lib.hid hb3
    have HSL := Lib.hid hsl
    clear hb3 hsl
    dsimp only [Act.put, tmVal]
    go_wp2_with fail
    refine (is_any 1 (.mk Tk Tn Ts Ta) a c _ _ HSL.out).mono ?_
    rintro e w5 ⟨_, rfl, ⟨a1, c1, a2', c2, a3, c3, rfl, hi1, hi2, hi3⟩, hb5⟩
    obtain ⟨hfr, hres⟩ := HF.out
    have hb1 := B1.out
    have hb3 := B3.out
    have s1 := hb1.size
    have s3 := hb3.size
    have s0 := hfr.size
    have hrl : w.heap.size + 1 < wc.heap.size := (Array.getElem?_eq_some_iff.1 hres).1
    have hall : Below w.heap.size w w5 := (hfr.below (Nat.le_refl _) fun _ h => h.elim).trans ((hb1.mono s0).trans ((hb3.mono (by omega)).trans (hb5.mono (by omega))))
    have hres5 : w5.heap[w.heap.size + 1]? = some (.cells zeroDid 35 (0, 0)) := by
      rw [hb5.block _ (by omega), hb3.block _ (by omega), hb1.block _ (by omega)]
      exact hres
    have hJ : ∀ b, (w1.heap.size ≤ b ∨ w3.heap.size ≤ b) → w.heap.size + 2 ≤ b := by
      intro b hb; omega
    clear hb1 hb3 hb5 hfr hres s0 s1 s3 HF B1 B3 HT HSL
    simp only [zeroDid] at hres5
    have r0 := cell_of_block hres5 0 (by simp)
    simp only [List.getElem_toArray, List.getElem_cons_zero, List.getElem_cons_succ] at r0
    have f0 := frozen_of_block hres5 0
    have r1 := cell_of_block hres5 1 (by simp)
    simp only [List.getElem_toArray, List.getElem_cons_zero, List.getElem_cons_succ] at r1
    have f1 := frozen_of_block hres5 1
    have r2 := cell_of_block hres5 2 (by simp)
    simp only [List.getElem_toArray, List.getElem_cons_zero, List.getElem_cons_succ] at r2
    have f2 := frozen_of_block hres5 2
    have r3 := cell_of_block hres5 3 (by simp)
    simp only [List.getElem_toArray, List.getElem_cons_zero, List.getElem_cons_succ] at r3
    have f3 := frozen_of_block hres5 3
    have r4 := cell_of_block hres5 4 (by simp)
    simp only [List.getElem_toArray, List.getElem_cons_zero, List.getElem_cons_succ] at r4
    have f4 := frozen_of_block hres5 4
    have r5 := cell_of_block hres5 5 (by simp)
    simp only [List.getElem_toArray, List.getElem_cons_zero, List.getElem_cons_succ] at r5
    have f5 := frozen_of_block hres5 5
    have r6 := cell_of_block hres5 6 (by simp)
    simp only [List.getElem_toArray, List.getElem_cons_zero, List.getElem_cons_succ] at r6
    have f6 := frozen_of_block hres5 6
    have hw5 := (Array.getElem?_eq_some_iff.1 hres5).1
    have HE := Lib.hid (And.intro hi1 (And.intro hi2 (And.intro hi3 (And.intro hall hJ))))
    clear hi1 hi2 hi3 hall hres5 hJ
    dsimp only [Act.put, didVal, didIs, noT, Tm.kind, Tm.n, Tm.s, Tm.args, List.length_nil, List.length_cons]
    go_wp2_with fail
    refine bodyPost_ret (v := didVal (didIs 1 (.mk Tk Tn Ts Ta)) a1 c1 a2' c2 a3 c3) (by simp only [results, Tryd.results38, didVal, didIs, noT, Tm.kind, Tm.n, Tm.s, Tm.args, List.length_nil, List.length_cons]; go_simp) rfl ?_
    obtain ⟨hi1, hi2, hi3, hall, hJ⟩ := HE.out
    have hset : Fr (· = w.heap.size + 1) w5 (((((((w5.setCell ⟨w.heap.size + 1, 0, none⟩ (.bool true)).setCell ⟨w.heap.size + 1, 1, none⟩ (.slice a1 1 c1)).setCell ⟨w.heap.size + 1, 2, none⟩ (.slice a2' 1 c2)).setCell ⟨w.heap.size + 1, 3, none⟩ (.int .i64 0)).setCell ⟨w.heap.size + 1, 4, none⟩ (.int .i64 0)).setCell ⟨w.heap.size + 1, 5, none⟩ (.string ⟨#[]⟩)).setCell ⟨w.heap.size + 1, 6, none⟩ (.slice a3 0 c3)) :=
      ((((((Fr.set1 _ _ _ _).trans (Fr.set1 _ _ _ _)).trans (Fr.set1 _ _ _ _)).trans (Fr.set1 _ _ _ _)).trans (Fr.set1 _ _ _ _)).trans (Fr.set1 _ _ _ _)).trans (Fr.set1 _ _ _ _)
    refine ⟨_, rfl, ⟨a1, c1, a2', c2, a3, c3, rfl, ?_, ?_, ?_⟩, hall.trans (hset.below hall.size fun k hk => by omega)⟩
    · exact (hi1.keep fun b hb hl => hset.block b hl (by have := hJ b hb; omega)).mono fun b hb => by have := hJ b hb; omega
    · exact (hi2.fr hset fun b hb => by have := hJ b hb; omega).mono fun b hb => by have := hJ b hb; omega
    · exact (hi3.fr hset fun b hb => by have := hJ b hb; omega).mono fun b hb => by have := hJ b hb; omega
set_option maxHeartbeats 1000000 in
theorem codes_name (s : ByteArray) (t1 : Tm) (b o cap : Nat) (w : World) (I : Nat → Prop) (h : TmsC w I [atomT s, t1] b o) (hs : s.size ≤ 1000000) :
    Calls Tryd.prog 25 #[.agg #[.slice (some ⟨b, o, none⟩) 2 cap]] w fun e w' => Ret (fun v w' => DidV w' (fun b => w.heap.size ≤ b) (didIs 1 (lst true s.data.toList)) v ∧ Below w.heap.size w w') e w' := by
  have HX := Lib.hid (And.intro h hs)
  clear h hs
  obtain ⟨Tk, Tn, Ts, Ta, hT⟩ : ∃ k n z l, Tm.mk k n z l = lst true s.data.toList := ⟨_, _, _, _, Tm.eta _⟩
  rw [← hT]
  have HTT := Lib.hid hT
  clear hT
  go_enter Tryd.func25, Tryd.ntmps25
  go_wp2_with fail
  have hw2 : Below w.heap.size w ((w.alloc (.cells #[.slice (some ⟨b, o, none⟩) 2 cap] 58)).alloc (.cells zeroDid 35)) := ((Below.refl _ w).alloc (Nat.le_refl _) _).alloc (by simp) _
  have hh := spell_name_codes s t1 b o cap _ _ (TmsC.keep (fun b _ hl => hw2.block b hl) _ b o HX.out.1) HX.out.2
  rw [← HTT.out] at hh
  simp only [zeroDid] at hh
  (with_reducible refine Calls.mono hh ?_)
  clear hh hw2
  rintro e w5 ⟨_, rfl, ⟨a1, c1, a2', c2, a3, c3, rfl, hi1, hi2, hi3⟩, hb5⟩
  simp only [World.size_alloc] at hb5 hi1 hi2 hi3
  have hall : Below w.heap.size w w5 := (((Below.refl _ w).alloc (Nat.le_refl _) _).alloc (by simp) _).trans (hb5.mono (by omega))
  have hres5 : w5.heap[w.heap.size + 1]? = some (.cells zeroDid 35 (0, 0)) := by
    rw [hb5.block _ (by omega)]
    exact heap_new' (by simp)
  have hJ : ∀ b, w.heap.size + 1 + 1 ≤ b → w.heap.size + 2 ≤ b := fun b hb => hb
  clear hb5
  simp only [zeroDid] at hres5
  have r0 := cell_of_block hres5 0 (by simp)
  simp only [List.getElem_toArray, List.getElem_cons_zero, List.getElem_cons_succ] at r0
  have f0 := frozen_of_block hres5 0
  have r1 := cell_of_block hres5 1 (by simp)
  simp only [List.getElem_toArray, List.getElem_cons_zero, List.getElem_cons_succ] at r1
  have f1 := frozen_of_block hres5 1
  have r2 := cell_of_block hres5 2 (by simp)
  simp only [List.getElem_toArray, List.getElem_cons_zero, List.getElem_cons_succ] at r2
  have f2 := frozen_of_block hres5 2
  have r3 := cell_of_block hres5 3 (by simp)
  simp only [List.getElem_toArray, List.getElem_cons_zero, List.getElem_cons_succ] at r3
  have f3 := frozen_of_block hres5 3
  have r4 := cell_of_block hres5 4 (by simp)
  simp only [List.getElem_toArray, List.getElem_cons_zero, List.getElem_cons_succ] at r4
  have f4 := frozen_of_block hres5 4
  have r5 := cell_of_block hres5 5 (by simp)
  simp only [List.getElem_toArray, List.getElem_cons_zero, List.getElem_cons_succ] at r5
  have f5 := frozen_of_block hres5 5
  have r6 := cell_of_block hres5 6 (by simp)
  simp only [List.getElem_toArray, List.getElem_cons_zero, List.getElem_cons_succ] at r6
  have f6 := frozen_of_block hres5 6
  have hw5 := (Array.getElem?_eq_some_iff.1 hres5).1
  have HE := Lib.hid (And.intro hi1 (And.intro hi2 (And.intro hi3 (And.intro hall hJ))))
  clear hi1 hi2 hi3 hall hres5 hJ
  dsimp only [Act.put, didVal, didIs, noT, Tm.kind, Tm.n, Tm.s, Tm.args, List.length_nil, List.length_cons]
  go_wp2_with fail
  refine bodyPost_ret (v := didVal (didIs 1 (.mk Tk Tn Ts Ta)) a1 c1 a2' c2 a3 c3) (by simp only [results, Tryd.results25, didVal, didIs, noT, Tm.kind, Tm.n, Tm.s, Tm.args, List.length_nil, List.length_cons]; go_simp) rfl ?_
  obtain ⟨hi1, hi2, hi3, hall, hJ⟩ := HE.out
  have hset : Fr (· = w.heap.size + 1) w5 (((((((w5.setCell ⟨w.heap.size + 1, 0, none⟩ (.bool true)).setCell ⟨w.heap.size + 1, 1, none⟩ (.slice a1 1 c1)).setCell ⟨w.heap.size + 1, 2, none⟩ (.slice a2' 1 c2)).setCell ⟨w.heap.size + 1, 3, none⟩ (.int .i64 0)).setCell ⟨w.heap.size + 1, 4, none⟩ (.int .i64 0)).setCell ⟨w.heap.size + 1, 5, none⟩ (.string ⟨#[]⟩)).setCell ⟨w.heap.size + 1, 6, none⟩ (.slice a3 0 c3)) :=
    ((((((Fr.set1 _ _ _ _).trans (Fr.set1 _ _ _ _)).trans (Fr.set1 _ _ _ _)).trans (Fr.set1 _ _ _ _)).trans (Fr.set1 _ _ _ _)).trans (Fr.set1 _ _ _ _)).trans (Fr.set1 _ _ _ _)
  refine ⟨_, rfl, ⟨a1, c1, a2', c2, a3, c3, rfl, ?_, ?_, ?_⟩, hall.trans (hset.below hall.size fun k hk => by omega)⟩
  · exact (hi1.keep fun b hb hl => hset.block b hl (by have := hJ b hb; omega)).mono fun b hb => by have := hJ b hb; omega
  · exact (hi2.fr hset fun b hb => by have := hJ b hb; omega).mono fun b hb => by have := hJ b hb; omega
  · exact (hi3.fr hset fun b hb => by have := hJ b hb; omega).mono fun b hb => by have := hJ b hb; omega
theorem do_codes_name (s : ByteArray) (n : Int) (a1 a2 : Option Addr) (c1 c2 B : Nat) (Y : World) (hs : s.size ≤ 1000) (hn : 0 ≤ n)
    (h : Y.heap[B]? = some (.cells #[.int .i64 3, .int .i64 0, .string s, .slice a1 0 c1, .int .i64 1, .int .i64 n, .string ⟨#[]⟩, .slice a2 0 c2] 28 (0, 0))) :
    Calls Tryd.prog 10 #[.string nmCodes, .slice (some ⟨B, 0, none⟩) 2 2] Y fun e w' => Ret (fun v w' => ∃ dv, v = .tuple #[dv, .int .i64 0] ∧ DidV w' (fun b => Y.heap.size ≤ b) (didIs 1 (lst true s.data.toList)) dv ∧ Below Y.heap.size Y w') e w' := by
  have hT : TmsC Y (fun _ => True) [atomT s, varT n] B 0 := by
    have hnil : ∀ (a : Option Addr) (c : Nat), SlC Y (fun _ => True) [] a c := fun a c => ⟨Nat.zero_le _, fun h => by simp at h⟩
    simp only [TmsC, and_true]
    exact ⟨TmC.iff.2 ⟨trivial, cell_of_block h 0 (by simp), cell_of_block h 1 (by simp), cell_of_block h 2 (by simp), a1, c1, cell_of_block h 3 (by simp), hnil _ _⟩,
      TmC.iff.2 ⟨trivial, cell_of_block h 4 (by simp), cell_of_block h 5 (by simp), cell_of_block h 6 (by simp), a2, c2, cell_of_block h 7 (by simp), hnil _ _⟩⟩
  refine do_codes _ B 0 2 Y _ _ rfl hT (by simp) ?_ fun w' hw' => codes_name s _ B 0 2 w' _ hw' (by omega)
  intro x hx
  simp only [List.mem_cons, List.not_mem_nil, or_false] at hx
  rcases hx with rfl | rfl
  · exact check_leaf rfl (may_atom _ (by omega))
  · exact check_leaf rfl (may_var _ hn)
end Go.Proofs.YtkjkckdjenjgdaaDoor
