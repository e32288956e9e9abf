/- The walks over text.call's spell, chars and codes, of a variable and a good list. -/
import Derived.Test.YtkjkckdjenjgdaaDoorTextOf
import Derived.Test.YtkjkckdjenjgdaaDoorLen
namespace Go.Proofs.YtkjkckdjenjgdaaDoor
open Go Go.RowKit
theorem Tm.size_pos (t : Tm) : 0 < t.size := by rw [Tm.size_eq]; omega
/-- The list t0 has these items, each the byte of bs, and ends in []. -/
structure GoodList (codes : Bool) (t0 : Tm) (bs : List UInt8) : Prop where
  small : t0.size ≤ 1000000000
  ex : ∃ its tail, itemsF t0.size t0 = (its, tail) ∧ its.length = bs.length ∧ (∀ (i : Nat) (h : i < its.length) (h' : i < bs.length), isByte codes its[i] bs[i]) ∧ tail.kind = 3 ∧ tail.s = ⟨#[91, 93]⟩

set_option maxHeartbeats 4000000 in
theorem spell_var_chars (t0 t1 : Tm) (bs : List UInt8) (b o cap : Nat) (w : World) (I : Nat → Prop) (h : TmsC w I [t0, t1] b o) (h0 : t0.kind = 1) (h1 : GoodList false t1 bs) (hs : bs.length ≤ 1000) :
    Calls Tryd.prog 38 #[.agg #[.slice (some ⟨b, o, none⟩) 2 cap], .bool false] w fun e w' => Ret (fun v w' => DidV w' (fun b => w.heap.size ≤ b) (didIs 0 (atomT ⟨bs.toArray⟩)) v ∧ Below w.heap.size w w') e w' := by
  obtain ⟨a0, p0, x0, x1, x2, x3, _⟩ := h.cells 0 (by simp)
  obtain ⟨a1, p1, y0, y1, y2, y3, hsl⟩ := h.cells 1 (by simp)
  simp only [List.getElem_cons_zero, List.getElem_cons_succ, Nat.zero_mul, Nat.one_mul, Nat.add_zero, Nat.add_assoc, Nat.reduceAdd] at x0 x1 x2 x3 y0 y1 y2 y3 hsl
  clear h
  have hb := World.block_lt_of_cell? w _ x0
  simp only at hb
  have HT := Lib.hid (And.intro h0 (And.intro h1 (And.intro hs hsl)))
  clear h0 h1 hs hsl
  go_enter Tryd.func38, Tryd.ntmps38
  go_upto_region 1 with (fail)
  go_cut [5, 6] (fun s3 s4 wc => TwoRel w #[.int .i64 t0.kind, .int .i64 t0.n, .string t0.s, .slice a0 t0.args.length p0] #[.int .i64 t1.kind, .int .i64 t1.n, .string t1.s, .slice a1 t1.args.length p1] s3 s4 wc)
  case first =>
    obtain ⟨W, hW⟩ : ∃ W, W = ((w.alloc (.cells #[.slice (some ⟨b, o, none⟩) 2 cap] 58)).alloc (.cells #[.bool false, .slice none 0 0, .slice none 0 0, .int .i64 0, .int .i64 0, .string ⟨#[]⟩, .slice none 0 0] 35)) := ⟨_, rfl⟩
    have hfr : Fr (fun _ => False) w W := by rw [hW]; exact (Fr.alloc _ w _).trans (Fr.alloc _ _ _)
    have v0 : W.cell? ⟨w.heap.size, 0, none⟩ = some (.slice (some ⟨b, o, none⟩) 2 cap) := by rw [hW]; go_simp
    have hWs : W.heap.size = w.heap.size + 2 := by rw [hW]; simp
    have x0' := hfr.cell x0 id
    have x1' := hfr.cell x1 id
    have x2' := hfr.cell x2 id
    have x3' := hfr.cell x3 id
    have y0' := hfr.cell y0 id
    have y1' := hfr.cell y1 id
    have y2' := hfr.cell y2 id
    have y3' := hfr.cell y3 id
    have lb : b < W.heap.size := by omega
    have lb1 : b < W.heap.size + 1 := by omega
    have lx : w.heap.size < W.heap.size := by omega
    have lx1 : w.heap.size < W.heap.size + 1 := by omega
    have nb0 : ¬ b = W.heap.size := by omega
    have nb1 : ¬ b = W.heap.size + 1 := by omega
    have nx0 : ¬ w.heap.size = W.heap.size := by omega
    have nx1 : ¬ w.heap.size = W.heap.size + 1 := by omega
    have hres : W.heap[w.heap.size + 1]? = some (.cells zeroDid 35 (0, 0)) := by rw [hW]; ((try rw [drew_heap]); (repeat (first | assumption | exact heap_new' (by first | omega | (simp only [World.size_alloc, World.size_setCell, World.size_drew]; done) | (simp only [World.size_alloc, World.size_setCell, World.size_drew]; omega)) | refine heap_old' (by first | omega | (simp only [World.size_alloc, World.size_setCell, World.size_drew]; done) | (simp only [World.size_alloc, World.size_setCell, World.size_drew]; omega)) ?_)))
    have HF := Lib.hid (And.intro hfr (And.intro hWs hres))
    rw [← hW]
    clear hW hfr hWs x0 x1 x2 x3 y0 y1 y2 y3 hb hres
    go_region_held3 (fun w' => w'.cell? ⟨w.heap.size, 0, none⟩ = some (.slice (some ⟨b, o, none⟩) 2 cap) ∧
      w'.cell? ⟨b, o, none⟩ = some (.int .i64 t0.kind) ∧ w'.cell? ⟨b, o + 1, none⟩ = some (.int .i64 t0.n) ∧ w'.cell? ⟨b, o + 2, none⟩ = some (.string t0.s) ∧ w'.cell? ⟨b, o + 3, none⟩ = some (.slice a0 t0.args.length p0) ∧
      w'.cell? ⟨b, o + 4, none⟩ = some (.int .i64 t1.kind) ∧ w'.cell? ⟨b, o + 5, none⟩ = some (.int .i64 t1.n) ∧ w'.cell? ⟨b, o + 6, none⟩ = some (.string t1.s) ∧ w'.cell? ⟨b, o + 7, none⟩ = some (.slice a1 t1.args.length p1))
      (first | (refine ⟨?_, ?_, ?_, ?_, ?_, ?_, ?_, ?_, ?_⟩ <;> (repeat (with_reducible (first | assumption | refine keep_alloc ?_ | refine keep_drew ?_ | refine keep_set ?_ (by simp; omega)))); done)) ((fail))
    all_goals
      go_wp2_with fail
      go_meet
      case rel =>
        obtain ⟨hfr, hWs, hres⟩ := HF.out
        refine ⟨⟨_, _, ⟨rfl, by omega, (by simp; try omega), (by ((try rw [drew_heap]); (repeat (first | assumption | exact heap_new' (by first | omega | (simp only [World.size_alloc, World.size_setCell, World.size_drew]; done) | (simp only [World.size_alloc, World.size_setCell, World.size_drew]; omega)) | refine heap_old' (by first | omega | (simp only [World.size_alloc, World.size_setCell, World.size_drew]; done) | (simp only [World.size_alloc, World.size_setCell, World.size_drew]; omega)) ?_))))⟩, ⟨rfl, by omega, (by simp; try omega), (by ((try rw [drew_heap]); (repeat (first | assumption | exact heap_new' (by first | omega | (simp only [World.size_alloc, World.size_setCell, World.size_drew]; done) | (simp only [World.size_alloc, World.size_setCell, World.size_drew]; omega)) | refine heap_old' (by first | omega | (simp only [World.size_alloc, World.size_setCell, World.size_drew]; done) | (simp only [World.size_alloc, World.size_setCell, World.size_drew]; omega)) ?_))))⟩⟩, ((hfr.trans (Fr.alloc _ _ _)).trans (Fr.alloc _ _ _)).trans (Fr.drew _ _), ?_⟩
        have : w.heap.size + 1 < W.heap.size := by omega
        ((try rw [drew_heap]); (repeat (first | assumption | exact heap_new' (by first | omega | (simp only [World.size_alloc, World.size_setCell, World.size_drew]; done) | (simp only [World.size_alloc, World.size_setCell, World.size_drew]; omega)) | refine heap_old' (by first | omega | (simp only [World.size_alloc, World.size_setCell, World.size_drew]; done) | (simp only [World.size_alloc, World.size_setCell, World.size_drew]; omega)) ?_)))
  case rest =>
    obtain ⟨⟨p3, p4, ⟨rfl, l3, m3, k3⟩, ⟨rfl, l4, m4, k4⟩⟩, hfr, hres⟩ := hcut
    obtain ⟨h1, hgl, hs, hsl⟩ := HT.out
    rw [h1] at k3
    have hsl' : SlC wc (fun b => I b ∧ b < w.heap.size) t1.args a1 p1 := hsl.there.fr hfr fun _ _ e => e
    clear h1 x0 x1 x2 x3 y0 y1 y2 y3
    have u0 := cell_of_block k3 0 (by simp)
    simp only [List.getElem_toArray, List.getElem_cons_zero, List.getElem_cons_succ] at u0
    have u1 := cell_of_block k3 1 (by simp)
    simp only [List.getElem_toArray, List.getElem_cons_zero, List.getElem_cons_succ] at u1
    have u2 := cell_of_block k3 2 (by simp)
    simp only [List.getElem_toArray, List.getElem_cons_zero, List.getElem_cons_succ] at u2
    have u3 := cell_of_block k3 3 (by simp)
    simp only [List.getElem_toArray, List.getElem_cons_zero, List.getElem_cons_succ] at u3
    have v0 := cell_of_block k4 0 (by simp)
    simp only [List.getElem_toArray, List.getElem_cons_zero, List.getElem_cons_succ] at v0
    have v1 := cell_of_block k4 1 (by simp)
    simp only [List.getElem_toArray, List.getElem_cons_zero, List.getElem_cons_succ] at v1
    have v2 := cell_of_block k4 2 (by simp)
    simp only [List.getElem_toArray, List.getElem_cons_zero, List.getElem_cons_succ] at v2
    have v3 := cell_of_block k4 3 (by simp)
    simp only [List.getElem_toArray, List.getElem_cons_zero, List.getElem_cons_succ] at v3
    simp only [zeroDid] at hres
    have HF := Lib.hid (And.intro hfr (And.intro hres (And.intro hsl' hgl)))
    clear hfr hres k3 k4 hb hsl hsl' hgl
    go_wp2_with fail
    refine (nameOf_none _ _ _ _ _ _ _ rfl rfl).mono ?_
    rintro e w1 ⟨rfl, hb1⟩
    have v0' := (hb1.cell (p := ⟨p4, 0, none⟩) m4).trans v0
    have v1' := (hb1.cell (p := ⟨p4, 1, none⟩) m4).trans v1
    have v2' := (hb1.cell (p := ⟨p4, 2, none⟩) m4).trans v2
    have v3' := (hb1.cell (p := ⟨p4, 3, none⟩) m4).trans v3
    have u0' := (hb1.cell (p := ⟨p3, 0, none⟩) m3).trans u0
    have m4' : p4 < w1.heap.size := Nat.lt_of_lt_of_le m4 hb1.size
    have m3' : p3 < w1.heap.size := Nat.lt_of_lt_of_le m3 hb1.size
    clear u0 u1 u2 u3 v0 v1 v2 v3
    have B1 := Lib.hid hb1
    clear hb1
    dsimp only [Act.put]
    go_wp2_with fail
    obtain ⟨gsm, its, tail, g1, g2, g3, g4, g5⟩ := HF.out.2.2.2
    have hh := textOf_chars (fun b => I b ∧ b < w.heap.size) t1 a1 p1 w1 bs tail its (fun b hb => Nat.lt_of_lt_of_le hb.2 (Nat.le_trans HF.out.1.size B1.out.size)) (HF.out.2.2.1.below B1.out) gsm (by omega) g1 g2 g3 g4 g5
    simp only [tmVal] at hh
    (with_reducible refine Calls.mono hh ?_)
    clear hh g1 g2 g3 g4 g5 gsm
    rintro e w3 ⟨rfl, hb3⟩
    have B3 := Lib.hid hb3
    clear hb3
    have hsz : (⟨bs.toArray⟩ : ByteArray).size ≤ 1000 := by show bs.toArray.size ≤ 1000; simpa using hs
    obtain ⟨S, hS⟩ : ∃ S : ByteArray, S = ⟨bs.toArray⟩ := ⟨_, rfl⟩
    rw [← hS] at hsz ⊢
    have HS := Lib.hid hS
    clear hS hs
    dsimp only [Act.put, tmVal, noT, Tm.kind, Tm.n, Tm.s, Tm.args, List.length_nil]
    go_wp2_with fail
    refine (atom_any _ _).mono ?_
    rintro e w4 ⟨rfl, hb4⟩
    dsimp only [Act.put, tmVal, atomT, Tm.kind, Tm.n, Tm.s, Tm.args, List.length_nil]
    go_wp2_with fail
    refine (is_any 0 (atomT S) none 0 _ (fun _ => False) ⟨Nat.le_refl _, by simp [atomT, Tm.args]⟩).mono ?_
    rintro e w5 ⟨_, rfl, ⟨a1, c1, a2', c2, a3, c3, rfl, hi1, hi2, hi3⟩, hb5⟩
    obtain ⟨hfr, hres, _, _⟩ := HF.out
    have hb1 := B1.out
    have hb3 := B3.out
    have s1 := hb1.size
    have s3 := hb3.size
    have s4 := hb4.size
    have s5 := hb5.size
    have s0 := hfr.size
    simp only [World.size_alloc] at s4
    have hall : Below w.heap.size w w5 := (hfr.below (Nat.le_refl _) fun _ h => h.elim).trans ((hb1.mono s0).trans
      ((hb3.mono (by omega)).trans ((((Below.refl _ w3).alloc (by omega) _).trans (hb4.mono (by simp only [World.size_alloc]; omega))).trans (hb5.mono (by omega)))))
    have hrl : w.heap.size + 1 < wc.heap.size := (Array.getElem?_eq_some_iff.1 hres).1
    have hres5 : w5.heap[w.heap.size + 1]? = some (.cells zeroDid 35 (0, 0)) := by
      rw [hb5.block _ (by omega), hb4.block _ (by simp only [World.size_alloc]; omega), heap_old' (by omega) rfl, hb3.block _ (by omega), hb1.block _ (by omega)]
      exact hres
    have hJ : ∀ b, (False ∨ w4.heap.size ≤ b) → w.heap.size + 2 ≤ b := by
      intro b hb; rcases hb with hb | hb; exact hb.elim; omega
    obtain rfl := HS.out
    clear hb1 hb3 hb4 hb5 hfr hres s0 s1 s3 s4 s5 v0' v1' v2' v3' u0' HF B1 B3 HT
    simp only [zeroDid] at hres5
    have r0 := cell_of_block hres5 0 (by simp)
    simp only [List.getElem_toArray, List.getElem_cons_zero, List.getElem_cons_succ] at r0
    have f0 := frozen_of_block hres5 0
    have r1 := cell_of_block hres5 1 (by simp)
    simp only [List.getElem_toArray, List.getElem_cons_zero, List.getElem_cons_succ] at r1
    have f1 := frozen_of_block hres5 1
    have r2 := cell_of_block hres5 2 (by simp)
    simp only [List.getElem_toArray, List.getElem_cons_zero, List.getElem_cons_succ] at r2
    have f2 := frozen_of_block hres5 2
    have r3 := cell_of_block hres5 3 (by simp)
    simp only [List.getElem_toArray, List.getElem_cons_zero, List.getElem_cons_succ] at r3
    have f3 := frozen_of_block hres5 3
    have r4 := cell_of_block hres5 4 (by simp)
    simp only [List.getElem_toArray, List.getElem_cons_zero, List.getElem_cons_succ] at r4
    have f4 := frozen_of_block hres5 4
    have r5 := cell_of_block hres5 5 (by simp)
    simp only [List.getElem_toArray, List.getElem_cons_zero, List.getElem_cons_succ] at r5
    have f5 := frozen_of_block hres5 5
    have r6 := cell_of_block hres5 6 (by simp)
    simp only [List.getElem_toArray, List.getElem_cons_zero, List.getElem_cons_succ] at r6
    have f6 := frozen_of_block hres5 6
    have hw5 := (Array.getElem?_eq_some_iff.1 hres5).1
    have HE := Lib.hid (And.intro hi1 (And.intro hi2 (And.intro hi3 (And.intro hall hJ))))
    clear hi1 hi2 hi3 hall hres5 hJ
    dsimp only [Act.put, didVal, didIs, noT, atomT, Tm.kind, Tm.n, Tm.s, Tm.args, List.length_nil, List.length_cons]
    go_wp2_with fail
    refine bodyPost_ret (v := didVal (didIs 0 (atomT ⟨bs.toArray⟩)) a1 c1 a2' c2 a3 c3) (by simp only [results, Tryd.results38, didVal, didIs, noT, atomT, Tm.kind, Tm.n, Tm.s, Tm.args, List.length_nil, List.length_cons]; go_simp) rfl ?_
    obtain ⟨hi1, hi2, hi3, hall, hJ⟩ := HE.out
    have hset : Fr (· = w.heap.size + 1) w5 (((((((w5.setCell ⟨w.heap.size + 1, 0, none⟩ (.bool true)).setCell ⟨w.heap.size + 1, 1, none⟩ (.slice a1 1 c1)).setCell ⟨w.heap.size + 1, 2, none⟩ (.slice a2' 1 c2)).setCell ⟨w.heap.size + 1, 3, none⟩ (.int .i64 0)).setCell ⟨w.heap.size + 1, 4, none⟩ (.int .i64 0)).setCell ⟨w.heap.size + 1, 5, none⟩ (.string ⟨#[]⟩)).setCell ⟨w.heap.size + 1, 6, none⟩ (.slice a3 0 c3)) :=
      ((((((Fr.set1 _ _ _ _).trans (Fr.set1 _ _ _ _)).trans (Fr.set1 _ _ _ _)).trans (Fr.set1 _ _ _ _)).trans (Fr.set1 _ _ _ _)).trans (Fr.set1 _ _ _ _)).trans (Fr.set1 _ _ _ _)
    refine ⟨_, rfl, ⟨a1, c1, a2', c2, a3, c3, rfl, ?_, ?_, ?_⟩, hall.trans (hset.below hall.size fun k hk => by omega)⟩
    · exact (hi1.keep fun b hb hl => hset.block b hl (by have := hJ b hb; omega)).mono fun b hb => by have := hJ b hb; omega
    · exact (hi2.fr hset fun b hb => by have := hJ b hb; omega).mono fun b hb => by have := hJ b hb; omega
    · exact (hi3.fr hset fun b hb => by have := hJ b hb; omega).mono fun b hb => by have := hJ b hb; omega
set_option maxHeartbeats 1000000 in
theorem chars_var (t0 t1 : Tm) (bs : List UInt8) (b o cap : Nat) (w : World) (I : Nat → Prop) (h : TmsC w I [t0, t1] b o) (h0 : t0.kind = 1) (h1 : GoodList false t1 bs) (hs : bs.length ≤ 1000) :
    Calls Tryd.prog 24 #[.agg #[.slice (some ⟨b, o, none⟩) 2 cap]] w fun e w' => Ret (fun v w' => DidV w' (fun b => w.heap.size ≤ b) (didIs 0 (atomT ⟨bs.toArray⟩)) v ∧ Below w.heap.size w w') e w' := by
  have HX := Lib.hid (And.intro h (And.intro h0 (And.intro h1 hs)))
  clear h h0 h1 hs
  go_enter Tryd.func24, Tryd.ntmps24
  go_wp2_with fail
  have hw2 : Below w.heap.size w ((w.alloc (.cells #[.slice (some ⟨b, o, none⟩) 2 cap] 58)).alloc (.cells zeroDid 35)) := ((Below.refl _ w).alloc (Nat.le_refl _) _).alloc (by simp) _
  have hh := spell_var_chars t0 t1 bs b o cap _ _ (TmsC.keep (fun b _ hl => hw2.block b hl) _ b o HX.out.1) HX.out.2.1 HX.out.2.2.1 HX.out.2.2.2
  simp only [zeroDid] at hh
  (with_reducible refine Calls.mono hh ?_)
  clear hh hw2
  rintro e w5 ⟨_, rfl, ⟨a1, c1, a2', c2, a3, c3, rfl, hi1, hi2, hi3⟩, hb5⟩
  simp only [World.size_alloc] at hb5 hi1 hi2 hi3
  have hall : Below w.heap.size w w5 := (((Below.refl _ w).alloc (Nat.le_refl _) _).alloc (by simp) _).trans (hb5.mono (by omega))
  have hres5 : w5.heap[w.heap.size + 1]? = some (.cells zeroDid 35 (0, 0)) := by
    rw [hb5.block _ (by omega)]
    exact heap_new' (by simp)
  have hJ : ∀ b, w.heap.size + 1 + 1 ≤ b → w.heap.size + 2 ≤ b := fun b hb => hb
  clear hb5
  simp only [zeroDid] at hres5
  have r0 := cell_of_block hres5 0 (by simp)
  simp only [List.getElem_toArray, List.getElem_cons_zero, List.getElem_cons_succ] at r0
  have f0 := frozen_of_block hres5 0
  have r1 := cell_of_block hres5 1 (by simp)
  simp only [List.getElem_toArray, List.getElem_cons_zero, List.getElem_cons_succ] at r1
  have f1 := frozen_of_block hres5 1
  have r2 := cell_of_block hres5 2 (by simp)
  simp only [List.getElem_toArray, List.getElem_cons_zero, List.getElem_cons_succ] at r2
  have f2 := frozen_of_block hres5 2
  have r3 := cell_of_block hres5 3 (by simp)
  simp only [List.getElem_toArray, List.getElem_cons_zero, List.getElem_cons_succ] at r3
  have f3 := frozen_of_block hres5 3
  have r4 := cell_of_block hres5 4 (by simp)
  simp only [List.getElem_toArray, List.getElem_cons_zero, List.getElem_cons_succ] at r4
  have f4 := frozen_of_block hres5 4
  have r5 := cell_of_block hres5 5 (by simp)
  simp only [List.getElem_toArray, List.getElem_cons_zero, List.getElem_cons_succ] at r5
  have f5 := frozen_of_block hres5 5
  have r6 := cell_of_block hres5 6 (by simp)
  simp only [List.getElem_toArray, List.getElem_cons_zero, List.getElem_cons_succ] at r6
  have f6 := frozen_of_block hres5 6
  have hw5 := (Array.getElem?_eq_some_iff.1 hres5).1
  have HE := Lib.hid (And.intro hi1 (And.intro hi2 (And.intro hi3 (And.intro hall hJ))))
  clear hi1 hi2 hi3 hall hres5 hJ
  dsimp only [Act.put, didVal, didIs, noT, atomT, Tm.kind, Tm.n, Tm.s, Tm.args, List.length_nil, List.length_cons]
  go_wp2_with fail
  refine bodyPost_ret (v := didVal (didIs 0 (atomT ⟨bs.toArray⟩)) a1 c1 a2' c2 a3 c3) (by simp only [results, Tryd.results24, didVal, didIs, noT, atomT, Tm.kind, Tm.n, Tm.s, Tm.args, List.length_nil, List.length_cons]; go_simp) rfl ?_
  obtain ⟨hi1, hi2, hi3, hall, hJ⟩ := HE.out
  have hset : Fr (· = w.heap.size + 1) w5 (((((((w5.setCell ⟨w.heap.size + 1, 0, none⟩ (.bool true)).setCell ⟨w.heap.size + 1, 1, none⟩ (.slice a1 1 c1)).setCell ⟨w.heap.size + 1, 2, none⟩ (.slice a2' 1 c2)).setCell ⟨w.heap.size + 1, 3, none⟩ (.int .i64 0)).setCell ⟨w.heap.size + 1, 4, none⟩ (.int .i64 0)).setCell ⟨w.heap.size + 1, 5, none⟩ (.string ⟨#[]⟩)).setCell ⟨w.heap.size + 1, 6, none⟩ (.slice a3 0 c3)) :=
    ((((((Fr.set1 _ _ _ _).trans (Fr.set1 _ _ _ _)).trans (Fr.set1 _ _ _ _)).trans (Fr.set1 _ _ _ _)).trans (Fr.set1 _ _ _ _)).trans (Fr.set1 _ _ _ _)).trans (Fr.set1 _ _ _ _)
  refine ⟨_, rfl, ⟨a1, c1, a2', c2, a3, c3, rfl, ?_, ?_, ?_⟩, hall.trans (hset.below hall.size fun k hk => by omega)⟩
  · exact (hi1.keep fun b hb hl => hset.block b hl (by have := hJ b hb; omega)).mono fun b hb => by have := hJ b hb; omega
  · exact (hi2.fr hset fun b hb => by have := hJ b hb; omega).mono fun b hb => by have := hJ b hb; omega
  · exact (hi3.fr hset fun b hb => by have := hJ b hb; omega).mono fun b hb => by have := hJ b hb; omega

set_option maxHeartbeats 4000000 in
theorem spell_var_codes (t0 t1 : Tm) (bs : List UInt8) (b o cap : Nat) (w : World) (I : Nat → Prop) (h : TmsC w I [t0, t1] b o) (h0 : t0.kind = 1) (h1 : GoodList true t1 bs) (hs : bs.length ≤ 1000) :
    Calls Tryd.prog 38 #[.agg #[.slice (some ⟨b, o, none⟩) 2 cap], .bool true] w fun e w' => Ret (fun v w' => DidV w' (fun b => w.heap.size ≤ b) (didIs 0 (atomT ⟨bs.toArray⟩)) v ∧ Below w.heap.size w w') e w' := by
  obtain ⟨a0, p0, x0, x1, x2, x3, _⟩ := h.cells 0 (by simp)
  obtain ⟨a1, p1, y0, y1, y2, y3, hsl⟩ := h.cells 1 (by simp)
  simp only [List.getElem_cons_zero, List.getElem_cons_succ, Nat.zero_mul, Nat.one_mul, Nat.add_zero, Nat.add_assoc, Nat.reduceAdd] at x0 x1 x2 x3 y0 y1 y2 y3 hsl
  clear h
  have hb := World.block_lt_of_cell? w _ x0
  simp only at hb
  have HT := Lib.hid (And.intro h0 (And.intro h1 (And.intro hs hsl)))
  clear h0 h1 hs hsl
  go_enter Tryd.func38, Tryd.ntmps38
  go_upto_region 1 with (fail)
  go_cut [5, 6] (fun s3 s4 wc => TwoRel w #[.int .i64 t0.kind, .int .i64 t0.n, .string t0.s, .slice a0 t0.args.length p0] #[.int .i64 t1.kind, .int .i64 t1.n, .string t1.s, .slice a1 t1.args.length p1] s3 s4 wc)
  case first =>
    obtain ⟨W, hW⟩ : ∃ W, W = ((w.alloc (.cells #[.slice (some ⟨b, o, none⟩) 2 cap] 58)).alloc (.cells #[.bool false, .slice none 0 0, .slice none 0 0, .int .i64 0, .int .i64 0, .string ⟨#[]⟩, .slice none 0 0] 35)) := ⟨_, rfl⟩
    have hfr : Fr (fun _ => False) w W := by rw [hW]; exact (Fr.alloc _ w _).trans (Fr.alloc _ _ _)
    have v0 : W.cell? ⟨w.heap.size, 0, none⟩ = some (.slice (some ⟨b, o, none⟩) 2 cap) := by rw [hW]; go_simp
    have hWs : W.heap.size = w.heap.size + 2 := by rw [hW]; simp
    have x0' := hfr.cell x0 id
    have x1' := hfr.cell x1 id
    have x2' := hfr.cell x2 id
    have x3' := hfr.cell x3 id
    have y0' := hfr.cell y0 id
    have y1' := hfr.cell y1 id
    have y2' := hfr.cell y2 id
    have y3' := hfr.cell y3 id
    have lb : b < W.heap.size := by omega
    have lb1 : b < W.heap.size + 1 := by omega
    have lx : w.heap.size < W.heap.size := by omega
    have lx1 : w.heap.size < W.heap.size + 1 := by omega
    have nb0 : ¬ b = W.heap.size := by omega
    have nb1 : ¬ b = W.heap.size + 1 := by omega
    have nx0 : ¬ w.heap.size = W.heap.size := by omega
    have nx1 : ¬ w.heap.size = W.heap.size + 1 := by omega
    have hres : W.heap[w.heap.size + 1]? = some (.cells zeroDid 35 (0, 0)) := by rw [hW]; ((try rw [drew_heap]); (repeat (first | assumption | exact heap_new' (by first | omega | (simp only [World.size_alloc, World.size_setCell, World.size_drew]; done) | (simp only [World.size_alloc, World.size_setCell, World.size_drew]; omega)) | refine heap_old' (by first | omega | (simp only [World.size_alloc, World.size_setCell, World.size_drew]; done) | (simp only [World.size_alloc, World.size_setCell, World.size_drew]; omega)) ?_)))
    have HF := Lib.hid (And.intro hfr (And.intro hWs hres))
    rw [← hW]
    clear hW hfr hWs x0 x1 x2 x3 y0 y1 y2 y3 hb hres
    go_region_held3 (fun w' => w'.cell? ⟨w.heap.size, 0, none⟩ = some (.slice (some ⟨b, o, none⟩) 2 cap) ∧
      w'.cell? ⟨b, o, none⟩ = some (.int .i64 t0.kind) ∧ w'.cell? ⟨b, o + 1, none⟩ = some (.int .i64 t0.n) ∧ w'.cell? ⟨b, o + 2, none⟩ = some (.string t0.s) ∧ w'.cell? ⟨b, o + 3, none⟩ = some (.slice a0 t0.args.length p0) ∧
      w'.cell? ⟨b, o + 4, none⟩ = some (.int .i64 t1.kind) ∧ w'.cell? ⟨b, o + 5, none⟩ = some (.int .i64 t1.n) ∧ w'.cell? ⟨b, o + 6, none⟩ = some (.string t1.s) ∧ w'.cell? ⟨b, o + 7, none⟩ = some (.slice a1 t1.args.length p1))
      (first | (refine ⟨?_, ?_, ?_, ?_, ?_, ?_, ?_, ?_, ?_⟩ <;> (repeat (with_reducible (first | assumption | refine keep_alloc ?_ | refine keep_drew ?_ | refine keep_set ?_ (by simp; omega)))); done)) ((fail))
    all_goals
      go_wp2_with fail
      go_meet
      case rel =>
        obtain ⟨hfr, hWs, hres⟩ := HF.out
        refine ⟨⟨_, _, ⟨rfl, by omega, (by simp; try omega), (by ((try rw [drew_heap]); (repeat (first | assumption | exact heap_new' (by first | omega | (simp only [World.size_alloc, World.size_setCell, World.size_drew]; done) | (simp only [World.size_alloc, World.size_setCell, World.size_drew]; omega)) | refine heap_old' (by first | omega | (simp only [World.size_alloc, World.size_setCell, World.size_drew]; done) | (simp only [World.size_alloc, World.size_setCell, World.size_drew]; omega)) ?_))))⟩, ⟨rfl, by omega, (by simp; try omega), (by ((try rw [drew_heap]); (repeat (first | assumption | exact heap_new' (by first | omega | (simp only [World.size_alloc, World.size_setCell, World.size_drew]; done) | (simp only [World.size_alloc, World.size_setCell, World.size_drew]; omega)) | refine heap_old' (by first | omega | (simp only [World.size_alloc, World.size_setCell, World.size_drew]; done) | (simp only [World.size_alloc, World.size_setCell, World.size_drew]; omega)) ?_))))⟩⟩, ((hfr.trans (Fr.alloc _ _ _)).trans (Fr.alloc _ _ _)).trans (Fr.drew _ _), ?_⟩
        have : w.heap.size + 1 < W.heap.size := by omega
        ((try rw [drew_heap]); (repeat (first | assumption | exact heap_new' (by first | omega | (simp only [World.size_alloc, World.size_setCell, World.size_drew]; done) | (simp only [World.size_alloc, World.size_setCell, World.size_drew]; omega)) | refine heap_old' (by first | omega | (simp only [World.size_alloc, World.size_setCell, World.size_drew]; done) | (simp only [World.size_alloc, World.size_setCell, World.size_drew]; omega)) ?_)))
  case rest =>
    obtain ⟨⟨p3, p4, ⟨rfl, l3, m3, k3⟩, ⟨rfl, l4, m4, k4⟩⟩, hfr, hres⟩ := hcut
    obtain ⟨h1, hgl, hs, hsl⟩ := HT.out
    rw [h1] at k3
    have hsl' : SlC wc (fun b => I b ∧ b < w.heap.size) t1.args a1 p1 := hsl.there.fr hfr fun _ _ e => e
    clear h1 x0 x1 x2 x3 y0 y1 y2 y3
    have u0 := cell_of_block k3 0 (by simp)
    simp only [List.getElem_toArray, List.getElem_cons_zero, List.getElem_cons_succ] at u0
    have u1 := cell_of_block k3 1 (by simp)
    simp only [List.getElem_toArray, List.getElem_cons_zero, List.getElem_cons_succ] at u1
    have u2 := cell_of_block k3 2 (by simp)
    simp only [List.getElem_toArray, List.getElem_cons_zero, List.getElem_cons_succ] at u2
    have u3 := cell_of_block k3 3 (by simp)
    simp only [List.getElem_toArray, List.getElem_cons_zero, List.getElem_cons_succ] at u3
    have v0 := cell_of_block k4 0 (by simp)
    simp only [List.getElem_toArray, List.getElem_cons_zero, List.getElem_cons_succ] at v0
    have v1 := cell_of_block k4 1 (by simp)
    simp only [List.getElem_toArray, List.getElem_cons_zero, List.getElem_cons_succ] at v1
    have v2 := cell_of_block k4 2 (by simp)
    simp only [List.getElem_toArray, List.getElem_cons_zero, List.getElem_cons_succ] at v2
    have v3 := cell_of_block k4 3 (by simp)
    simp only [List.getElem_toArray, List.getElem_cons_zero, List.getElem_cons_succ] at v3
    simp only [zeroDid] at hres
    have HF := Lib.hid (And.intro hfr (And.intro hres (And.intro hsl' hgl)))
    clear hfr hres k3 k4 hb hsl hsl' hgl
    go_wp2_with fail
    refine (nameOf_none _ _ _ _ _ _ _ rfl rfl).mono ?_
    rintro e w1 ⟨rfl, hb1⟩
    have v0' := (hb1.cell (p := ⟨p4, 0, none⟩) m4).trans v0
    have v1' := (hb1.cell (p := ⟨p4, 1, none⟩) m4).trans v1
    have v2' := (hb1.cell (p := ⟨p4, 2, none⟩) m4).trans v2
    have v3' := (hb1.cell (p := ⟨p4, 3, none⟩) m4).trans v3
    have u0' := (hb1.cell (p := ⟨p3, 0, none⟩) m3).trans u0
    have m4' : p4 < w1.heap.size := Nat.lt_of_lt_of_le m4 hb1.size
    have m3' : p3 < w1.heap.size := Nat.lt_of_lt_of_le m3 hb1.size
    clear u0 u1 u2 u3 v0 v1 v2 v3
    have B1 := Lib.hid hb1
    clear hb1
    dsimp only [Act.put]
    go_wp2_with fail
    obtain ⟨gsm, its, tail, g1, g2, g3, g4, g5⟩ := HF.out.2.2.2
    have hh := textOf_codes (fun b => I b ∧ b < w.heap.size) t1 a1 p1 w1 bs tail its (fun b hb => Nat.lt_of_lt_of_le hb.2 (Nat.le_trans HF.out.1.size B1.out.size)) (HF.out.2.2.1.below B1.out) gsm (by omega) g1 g2 g3 g4 g5
    simp only [tmVal] at hh
    (with_reducible refine Calls.mono hh ?_)
    clear hh g1 g2 g3 g4 g5 gsm
    rintro e w3 ⟨rfl, hb3⟩
    have B3 := Lib.hid hb3
    clear hb3
    have hsz : (⟨bs.toArray⟩ : ByteArray).size ≤ 1000 := by show bs.toArray.size ≤ 1000; simpa using hs
    obtain ⟨S, hS⟩ : ∃ S : ByteArray, S = ⟨bs.toArray⟩ := ⟨_, rfl⟩
    rw [← hS] at hsz ⊢
    have HS := Lib.hid hS
    clear hS hs
    dsimp only [Act.put, tmVal, noT, Tm.kind, Tm.n, Tm.s, Tm.args, List.length_nil]
    go_wp2_with fail
    refine (atom_any _ _).mono ?_
    rintro e w4 ⟨rfl, hb4⟩
    dsimp only [Act.put, tmVal, atomT, Tm.kind, Tm.n, Tm.s, Tm.args, List.length_nil]
    go_wp2_with fail
    refine (is_any 0 (atomT S) none 0 _ (fun _ => False) ⟨Nat.le_refl _, by simp [atomT, Tm.args]⟩).mono ?_
    rintro e w5 ⟨_, rfl, ⟨a1, c1, a2', c2, a3, c3, rfl, hi1, hi2, hi3⟩, hb5⟩
    obtain ⟨hfr, hres, _, _⟩ := HF.out
    have hb1 := B1.out
    have hb3 := B3.out
    have s1 := hb1.size
    have s3 := hb3.size
    have s4 := hb4.size
    have s5 := hb5.size
    have s0 := hfr.size
    simp only [World.size_alloc] at s4
    have hall : Below w.heap.size w w5 := (hfr.below (Nat.le_refl _) fun _ h => h.elim).trans ((hb1.mono s0).trans
      ((hb3.mono (by omega)).trans ((((Below.refl _ w3).alloc (by omega) _).trans (hb4.mono (by simp only [World.size_alloc]; omega))).trans (hb5.mono (by omega)))))
    have hrl : w.heap.size + 1 < wc.heap.size := (Array.getElem?_eq_some_iff.1 hres).1
    have hres5 : w5.heap[w.heap.size + 1]? = some (.cells zeroDid 35 (0, 0)) := by
      rw [hb5.block _ (by omega), hb4.block _ (by simp only [World.size_alloc]; omega), heap_old' (by omega) rfl, hb3.block _ (by omega), hb1.block _ (by omega)]
      exact hres
    have hJ : ∀ b, (False ∨ w4.heap.size ≤ b) → w.heap.size + 2 ≤ b := by
      intro b hb; rcases hb with hb | hb; exact hb.elim; omega
    obtain rfl := HS.out
    clear hb1 hb3 hb4 hb5 hfr hres s0 s1 s3 s4 s5 v0' v1' v2' v3' u0' HF B1 B3 HT
    simp only [zeroDid] at hres5
    have r0 := cell_of_block hres5 0 (by simp)
    simp only [List.getElem_toArray, List.getElem_cons_zero, List.getElem_cons_succ] at r0
    have f0 := frozen_of_block hres5 0
    have r1 := cell_of_block hres5 1 (by simp)
    simp only [List.getElem_toArray, List.getElem_cons_zero, List.getElem_cons_succ] at r1
    have f1 := frozen_of_block hres5 1
    have r2 := cell_of_block hres5 2 (by simp)
    simp only [List.getElem_toArray, List.getElem_cons_zero, List.getElem_cons_succ] at r2
    have f2 := frozen_of_block hres5 2
    have r3 := cell_of_block hres5 3 (by simp)
    simp only [List.getElem_toArray, List.getElem_cons_zero, List.getElem_cons_succ] at r3
    have f3 := frozen_of_block hres5 3
    have r4 := cell_of_block hres5 4 (by simp)
    simp only [List.getElem_toArray, List.getElem_cons_zero, List.getElem_cons_succ] at r4
    have f4 := frozen_of_block hres5 4
    have r5 := cell_of_block hres5 5 (by simp)
    simp only [List.getElem_toArray, List.getElem_cons_zero, List.getElem_cons_succ] at r5
    have f5 := frozen_of_block hres5 5
    have r6 := cell_of_block hres5 6 (by simp)
    simp only [List.getElem_toArray, List.getElem_cons_zero, List.getElem_cons_succ] at r6
    have f6 := frozen_of_block hres5 6
    have hw5 := (Array.getElem?_eq_some_iff.1 hres5).1
    have HE := Lib.hid (And.intro hi1 (And.intro hi2 (And.intro hi3 (And.intro hall hJ))))
    clear hi1 hi2 hi3 hall hres5 hJ
    dsimp only [Act.put, didVal, didIs, noT, atomT, Tm.kind, Tm.n, Tm.s, Tm.args, List.length_nil, List.length_cons]
    go_wp2_with fail
    refine bodyPost_ret (v := didVal (didIs 0 (atomT ⟨bs.toArray⟩)) a1 c1 a2' c2 a3 c3) (by simp only [results, Tryd.results38, didVal, didIs, noT, atomT, Tm.kind, Tm.n, Tm.s, Tm.args, List.length_nil, List.length_cons]; go_simp) rfl ?_
    obtain ⟨hi1, hi2, hi3, hall, hJ⟩ := HE.out
    have hset : Fr (· = w.heap.size + 1) w5 (((((((w5.setCell ⟨w.heap.size + 1, 0, none⟩ (.bool true)).setCell ⟨w.heap.size + 1, 1, none⟩ (.slice a1 1 c1)).setCell ⟨w.heap.size + 1, 2, none⟩ (.slice a2' 1 c2)).setCell ⟨w.heap.size + 1, 3, none⟩ (.int .i64 0)).setCell ⟨w.heap.size + 1, 4, none⟩ (.int .i64 0)).setCell ⟨w.heap.size + 1, 5, none⟩ (.string ⟨#[]⟩)).setCell ⟨w.heap.size + 1, 6, none⟩ (.slice a3 0 c3)) :=
      ((((((Fr.set1 _ _ _ _).trans (Fr.set1 _ _ _ _)).trans (Fr.set1 _ _ _ _)).trans (Fr.set1 _ _ _ _)).trans (Fr.set1 _ _ _ _)).trans (Fr.set1 _ _ _ _)).trans (Fr.set1 _ _ _ _)
    refine ⟨_, rfl, ⟨a1, c1, a2', c2, a3, c3, rfl, ?_, ?_, ?_⟩, hall.trans (hset.below hall.size fun k hk => by omega)⟩
    · exact (hi1.keep fun b hb hl => hset.block b hl (by have := hJ b hb; omega)).mono fun b hb => by have := hJ b hb; omega
    · exact (hi2.fr hset fun b hb => by have := hJ b hb; omega).mono fun b hb => by have := hJ b hb; omega
    · exact (hi3.fr hset fun b hb => by have := hJ b hb; omega).mono fun b hb => by have := hJ b hb; omega
set_option maxHeartbeats 1000000 in
theorem codes_var (t0 t1 : Tm) (bs : List UInt8) (b o cap : Nat) (w : World) (I : Nat → Prop) (h : TmsC w I [t0, t1] b o) (h0 : t0.kind = 1) (h1 : GoodList true t1 bs) (hs : bs.length ≤ 1000) :
    Calls Tryd.prog 25 #[.agg #[.slice (some ⟨b, o, none⟩) 2 cap]] w fun e w' => Ret (fun v w' => DidV w' (fun b => w.heap.size ≤ b) (didIs 0 (atomT ⟨bs.toArray⟩)) v ∧ Below w.heap.size w w') e w' := by
  have HX := Lib.hid (And.intro h (And.intro h0 (And.intro h1 hs)))
  clear h h0 h1 hs
  go_enter Tryd.func25, Tryd.ntmps25
  go_wp2_with fail
  have hw2 : Below w.heap.size w ((w.alloc (.cells #[.slice (some ⟨b, o, none⟩) 2 cap] 58)).alloc (.cells zeroDid 35)) := ((Below.refl _ w).alloc (Nat.le_refl _) _).alloc (by simp) _
  have hh := spell_var_codes t0 t1 bs b o cap _ _ (TmsC.keep (fun b _ hl => hw2.block b hl) _ b o HX.out.1) HX.out.2.1 HX.out.2.2.1 HX.out.2.2.2
  simp only [zeroDid] at hh
  (with_reducible refine Calls.mono hh ?_)
  clear hh hw2
  rintro e w5 ⟨_, rfl, ⟨a1, c1, a2', c2, a3, c3, rfl, hi1, hi2, hi3⟩, hb5⟩
  simp only [World.size_alloc] at hb5 hi1 hi2 hi3
  have hall : Below w.heap.size w w5 := (((Below.refl _ w).alloc (Nat.le_refl _) _).alloc (by simp) _).trans (hb5.mono (by omega))
  have hres5 : w5.heap[w.heap.size + 1]? = some (.cells zeroDid 35 (0, 0)) := by
    rw [hb5.block _ (by omega)]
    exact heap_new' (by simp)
  have hJ : ∀ b, w.heap.size + 1 + 1 ≤ b → w.heap.size + 2 ≤ b := fun b hb => hb
  clear hb5
  simp only [zeroDid] at hres5
  have r0 := cell_of_block hres5 0 (by simp)
  simp only [List.getElem_toArray, List.getElem_cons_zero, List.getElem_cons_succ] at r0
  have f0 := frozen_of_block hres5 0
  have r1 := cell_of_block hres5 1 (by simp)
  simp only [List.getElem_toArray, List.getElem_cons_zero, List.getElem_cons_succ] at r1
  have f1 := frozen_of_block hres5 1
  have r2 := cell_of_block hres5 2 (by simp)
  simp only [List.getElem_toArray, List.getElem_cons_zero, List.getElem_cons_succ] at r2
  have f2 := frozen_of_block hres5 2
  have r3 := cell_of_block hres5 3 (by simp)
  simp only [List.getElem_toArray, List.getElem_cons_zero, List.getElem_cons_succ] at r3
  have f3 := frozen_of_block hres5 3
  have r4 := cell_of_block hres5 4 (by simp)
  simp only [List.getElem_toArray, List.getElem_cons_zero, List.getElem_cons_succ] at r4
  have f4 := frozen_of_block hres5 4
  have r5 := cell_of_block hres5 5 (by simp)
  simp only [List.getElem_toArray, List.getElem_cons_zero, List.getElem_cons_succ] at r5
  have f5 := frozen_of_block hres5 5
  have r6 := cell_of_block hres5 6 (by simp)
  simp only [List.getElem_toArray, List.getElem_cons_zero, List.getElem_cons_succ] at r6
  have f6 := frozen_of_block hres5 6
  have hw5 := (Array.getElem?_eq_some_iff.1 hres5).1
  have HE := Lib.hid (And.intro hi1 (And.intro hi2 (And.intro hi3 (And.intro hall hJ))))
  clear hi1 hi2 hi3 hall hres5 hJ
  dsimp only [Act.put, didVal, didIs, noT, atomT, Tm.kind, Tm.n, Tm.s, Tm.args, List.length_nil, List.length_cons]
  go_wp2_with fail
  refine bodyPost_ret (v := didVal (didIs 0 (atomT ⟨bs.toArray⟩)) a1 c1 a2' c2 a3 c3) (by simp only [results, Tryd.results25, didVal, didIs, noT, atomT, Tm.kind, Tm.n, Tm.s, Tm.args, List.length_nil, List.length_cons]; go_simp) rfl ?_
  obtain ⟨hi1, hi2, hi3, hall, hJ⟩ := HE.out
  have hset : Fr (· = w.heap.size + 1) w5 (((((((w5.setCell ⟨w.heap.size + 1, 0, none⟩ (.bool true)).setCell ⟨w.heap.size + 1, 1, none⟩ (.slice a1 1 c1)).setCell ⟨w.heap.size + 1, 2, none⟩ (.slice a2' 1 c2)).setCell ⟨w.heap.size + 1, 3, none⟩ (.int .i64 0)).setCell ⟨w.heap.size + 1, 4, none⟩ (.int .i64 0)).setCell ⟨w.heap.size + 1, 5, none⟩ (.string ⟨#[]⟩)).setCell ⟨w.heap.size + 1, 6, none⟩ (.slice a3 0 c3)) :=
    ((((((Fr.set1 _ _ _ _).trans (Fr.set1 _ _ _ _)).trans (Fr.set1 _ _ _ _)).trans (Fr.set1 _ _ _ _)).trans (Fr.set1 _ _ _ _)).trans (Fr.set1 _ _ _ _)).trans (Fr.set1 _ _ _ _)
  refine ⟨_, rfl, ⟨a1, c1, a2', c2, a3, c3, rfl, ?_, ?_, ?_⟩, hall.trans (hset.below hall.size fun k hk => by omega)⟩
  · exact (hi1.keep fun b hb hl => hset.block b hl (by have := hJ b hb; omega)).mono fun b hb => by have := hJ b hb; omega
  · exact (hi2.fr hset fun b hb => by have := hJ b hb; omega).mono fun b hb => by have := hJ b hb; omega
  · exact (hi3.fr hset fun b hb => by have := hJ b hb; omega).mono fun b hb => by have := hJ b hb; omega
end Go.Proofs.YtkjkckdjenjgdaaDoor
