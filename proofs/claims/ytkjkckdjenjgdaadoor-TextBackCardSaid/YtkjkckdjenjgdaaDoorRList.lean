/- The walk over prolixref03.List. -/
import Derived.Test.YtkjkckdjenjgdaaDoorItems
import Derived.Deep.RegionHeld3
namespace Go.Proofs.YtkjkckdjenjgdaaDoor
open Go Go.RowKit

/-- Blocks of the list that is made: the arguments' and new ones. -/
def RJ (I : Nat → Prop) (w : World) (B : Nat) (b : Nat) : Prop := (I b ∧ b < w.heap.size) ∨ (w.heap.size ≤ b ∧ b ≠ B ∧ b ≠ w.heap.size + 1)
structure RListRel (I : Nat → Prop) (w : World) (B : Nat) (xs : List Tm) (tail : Tm) (m : Nat) (wr : World) : Prop where
  le : m ≤ xs.length
  bel : Below w.heap.size w wr
  ex : ∃ a c, wr.heap[B]? = some (.cells #[.int .i64 (listT (xs.drop m) tail).kind, .int .i64 (listT (xs.drop m) tail).n, .string (listT (xs.drop m) tail).s, .slice a (listT (xs.drop m) tail).args.length c] 28 (0, 0)) ∧
    SlC wr (RJ I w B) (listT (xs.drop m) tail).args a c
  res : wr.heap[w.heap.size + 1]? = some (.cells #[.int .i64 0, .int .i64 0, .string ⟨#[]⟩, .slice none 0 0] 28 (0, 0))
theorem RListRel.step {I : Nat → Prop} {w : World} {B : Nat} {xs : List Tm} {tail t lt : Tm} {j : Nat} {w2 : World} {a2 a3 : Option Addr} {c2 c3 : Nat} (Q : RListRel I w B xs tail (j + 1) w2) (hBw : w.heap.size + 2 ≤ B)
    (hlt : lt = listT (xs.drop (j + 1)) tail) (ht : xs[j]? = some t) (hbox : w2.heap[B]? = some (.cells #[.int .i64 lt.kind, .int .i64 lt.n, .string lt.s, .slice a2 lt.args.length c2] 28 (0, 0)))
    (hsl : SlC w2 (RJ I w B) lt.args a2 c2) (hs3 : SlC w2 (fun b => I b ∧ b < w.heap.size) t.args a3 c3) :
    RListRel I w B xs tail j (((((w2.setCell ⟨B, 0, none⟩ (.int .i64 4)).setCell ⟨B, 1, none⟩ (.int .i64 0)).setCell ⟨B, 2, none⟩ (.string ⟨#[46]⟩)).setCell ⟨B, 3, none⟩ (.slice (some ⟨w2.heap.size, 0, none⟩) 2 2)).alloc
      (.cells #[.int .i64 t.kind, .int .i64 t.n, .string t.s, .slice a3 t.args.length c3, .int .i64 lt.kind, .int .i64 lt.n, .string lt.s, .slice a2 lt.args.length c2] 28)) := by
  have hdrop : xs.drop j = t :: xs.drop (j + 1) := by
    have hj := (List.getElem?_eq_some_iff.1 ht)
    rw [List.drop_eq_getElem_cons hj.1, hj.2]
  have hcons : listT (xs.drop j) tail = consT t lt := by rw [hdrop, hlt]; rfl
  have hBr := (Array.getElem?_eq_some_iff.1 hbox).1
  have hrr := (Array.getElem?_eq_some_iff.1 Q.res).1
  have hqs := Q.bel.size
  obtain ⟨X, hX⟩ : ∃ X, X = ((((w2.setCell ⟨B, 0, none⟩ (.int .i64 4)).setCell ⟨B, 1, none⟩ (.int .i64 0)).setCell ⟨B, 2, none⟩ (.string ⟨#[46]⟩)).setCell ⟨B, 3, none⟩ (.slice (some ⟨w2.heap.size, 0, none⟩) 2 2)) := ⟨_, rfl⟩
  have hset : Fr (· = B) w2 X := hX ▸ (((Fr.set1 _ _ _ _).trans (Fr.set1 _ _ _ _)).trans (Fr.set1 _ _ _ _)).trans (Fr.set1 _ _ _ _)
  have hXs : X.heap.size = w2.heap.size := by rw [hX]; simp
  have hXB : X.heap[B]? = some (.cells #[.int .i64 4, .int .i64 0, .string ⟨#[46]⟩, .slice (some ⟨w2.heap.size, 0, none⟩) 2 2] 28 (0, 0)) := by
    rw [hX]
    have := heap_set (i := 3) (v := .slice (some ⟨w2.heap.size, 0, none⟩) 2 2) (heap_set (i := 2) (v := .string ⟨#[46]⟩) (heap_set (i := 1) (v := .int .i64 0) (heap_set (i := 0) (v := .int .i64 4) hbox)))
    simpa using this
  rw [← hX]
  generalize hcs : (#[.int .i64 t.kind, .int .i64 t.n, .string t.s, .slice a3 t.args.length c3, .int .i64 lt.kind, .int .i64 lt.n, .string lt.s, .slice a2 lt.args.length c2] : Array Value) = cs
  have hnew : (X.alloc (.cells cs 28)).heap[w2.heap.size]? = some (.cells cs 28 (0, 0)) := heap_new' hXs.symm
  have hfx : Fr (· = B) w2 (X.alloc (.cells cs 28)) := hset.trans (Fr.alloc _ _ _)
  have hJB : ∀ b, RJ I w B b → ¬ b = B := fun b hb e => by rcases hb with h | h; omega; exact h.2.1 e
  refine ⟨by have := Q.le; omega, Q.bel.trans (hfx.below (by omega) fun k hk => by omega), ⟨some ⟨w2.heap.size, 0, none⟩, 2, ?_, ?_⟩, ?_⟩
  · rw [hcons]
    exact heap_old' (by omega) hXB
  · rw [hcons]
    refine ⟨Nat.le_refl _, fun _ => ⟨_, _, rfl, ?_⟩⟩
    subst hcs
    have hI : RJ I w B w2.heap.size := .inr ⟨by omega, by omega, by omega⟩
    simp only [consT, Tm.args, TmsC, and_true]
    refine ⟨TmC.iff.2 ⟨hI, cell_of_block hnew 0 (by simp), cell_of_block hnew 1 (by simp), cell_of_block hnew 2 (by simp), a3, c3, cell_of_block hnew 3 (by simp), ?_⟩,
      TmC.iff.2 ⟨hI, cell_of_block hnew 4 (by simp), cell_of_block hnew 5 (by simp), cell_of_block hnew 6 (by simp), a2, c2, cell_of_block hnew 7 (by simp), ?_⟩⟩
    · exact (hs3.fr hfx fun b hb e => by omega).mono fun b hb => .inl hb
    · exact hsl.fr hfx hJB
  · refine heap_old' (by omega) ?_
    rw [hset.block _ (by omega) (by omega)]
    exact Q.res
theorem RListRel.drew {I : Nat → Prop} {w : World} {B : Nat} {xs : List Tm} {tail : Tm} {j : Nat} {wr : World} (Q : RListRel I w B xs tail j wr) : RListRel I w B xs tail j wr.drew :=
  ⟨Q.le, Q.bel.drew, let ⟨a, c, h1, h2⟩ := Q.ex; ⟨a, c, h1, h2.drew⟩, Q.res⟩

set_option maxHeartbeats 1000000 in
set_option maxRecDepth 100000 in
theorem rlist_any (I : Nat → Prop) (xs : List Tm) (tail : Tm) (a at1 : Option Addr) (c ct : Nat) (w : World) (hx : SlC w I xs a c) (ht : SlC w I tail.args at1 ct) (hl : xs.length ≤ 1000000) :
    Calls Tryd.prog 21 #[.slice a xs.length c, tmVal tail at1 ct] w fun e w' => Ret (fun v w' => TmV w' (fun b => I b ∨ w.heap.size ≤ b) (listT xs tail) v ∧ Below w.heap.size w w') e w' := by
  simp only [tmVal]
  obtain ⟨n, hn⟩ : ∃ n, n = xs.length := ⟨_, rfl⟩
  rw [← hn] at hl ⊢
  have HN := Lib.hid (And.intro hn (And.intro hx ht))
  clear hn hx ht
  go_enter Tryd.func21, Tryd.ntmps21
  go_wp2_with fail
  obtain ⟨B, hB⟩ : ∃ B, B = w.heap.size + 2 := ⟨_, rfl⟩
  have hBw : w.heap.size + 2 ≤ B := by omega
  obtain ⟨W1, hW1⟩ : ∃ W1, W1 = ((w.alloc (.cells #[.int .i64 tail.kind, .int .i64 tail.n, .string tail.s, .slice at1 tail.args.length ct] 28)).alloc (.cells #[.int .i64 0, .int .i64 0, .string ⟨#[]⟩, .slice none 0 0] 28)).alloc (.cells #[.int .i64 tail.kind, .int .i64 tail.n, .string tail.s, .slice at1 tail.args.length ct] 28) := ⟨_, rfl⟩
  have hbw : Below w.heap.size w W1 := by rw [hW1]; exact (((Below.refl _ w).alloc (Nat.le_refl _) _).alloc (by simp) _).alloc (by simp; omega) _
  have hstart : RListRel I w B xs tail n W1 := by
    have hdrop : xs.drop n = [] := by rw [HN.out.1]; exact List.drop_length
    refine ⟨by rw [HN.out.1]; exact Nat.le_refl _, hbw, ⟨at1, ct, ?_, ?_⟩, ?_⟩
    · rw [hW1, hB, hdrop]; exact heap_new' (by simp)
    · rw [hdrop]
      exact (HN.out.2.2.there.below hbw).mono fun b hb => .inl hb
    · rw [hW1]
      exact heap_old' (by simp) (heap_new' (by simp))
  have HST := Lib.hid hstart
  rw [← hW1]
  have hB' : w.heap.size + 1 + 1 = B := hB.symm
  rw [hB']
  clear hstart hW1 hB hbw hB'
  go_loopg [6] n (fun k i wr => i = .int .i64 ((k : Int) - 1) ∧ RListRel I w B xs tail k wr)
  case atStart => exact ⟨rfl, HST.out⟩
  case round =>
    obtain ⟨rfl, Q⟩ := hrel
    obtain ⟨a2, c2, hbox, hsl⟩ := Q.ex
    have hres := Q.res
    have hBr := (Array.getElem?_eq_some_iff.1 hbox).1
    rcases Nat.eq_zero_or_pos gk with h0 | h0
    · subst h0
      rw [List.drop_zero] at hbox hsl
      obtain ⟨lt, hlt⟩ : ∃ lt, lt = listT xs tail := ⟨_, rfl⟩
      rw [← hlt] at hbox hsl
      have x0 := cell_of_block hbox 0 (by simp)
      simp only [List.getElem_toArray, List.getElem_cons_zero, List.getElem_cons_succ] at x0
      have x1 := cell_of_block hbox 1 (by simp)
      simp only [List.getElem_toArray, List.getElem_cons_zero, List.getElem_cons_succ] at x1
      have x2 := cell_of_block hbox 2 (by simp)
      simp only [List.getElem_toArray, List.getElem_cons_zero, List.getElem_cons_succ] at x2
      have x3 := cell_of_block hbox 3 (by simp)
      simp only [List.getElem_toArray, List.getElem_cons_zero, List.getElem_cons_succ] at x3
      have r0 := cell_of_block hres 0 (by simp)
      simp only [List.getElem_toArray, List.getElem_cons_zero, List.getElem_cons_succ] at r0
      have f0 := frozen_of_block hres 0
      have r1 := cell_of_block hres 1 (by simp)
      simp only [List.getElem_toArray, List.getElem_cons_zero, List.getElem_cons_succ] at r1
      have f1 := frozen_of_block hres 1
      have r2 := cell_of_block hres 2 (by simp)
      simp only [List.getElem_toArray, List.getElem_cons_zero, List.getElem_cons_succ] at r2
      have f2 := frozen_of_block hres 2
      have r3 := cell_of_block hres 3 (by simp)
      simp only [List.getElem_toArray, List.getElem_cons_zero, List.getElem_cons_succ] at r3
      have f3 := frozen_of_block hres 3
      have HQ := Lib.hid (And.intro Q (And.intro hsl hlt))
      clear Q hsl hlt hbox hres
      simp only [Int.natCast_zero, Int.zero_sub]
      go_wp2_with fail
      refine bodyPost_ret (v := tmVal lt a2 c2) (by simp only [results, Tryd.results21, tmVal]; go_simp) rfl ?_
      obtain ⟨Q, hsl, hlt⟩ := HQ.out
      have hset : Fr (· = w.heap.size + 1) wr ((((wr.setCell ⟨w.heap.size + 1, 0, none⟩ (.int .i64 lt.kind)).setCell ⟨w.heap.size + 1, 1, none⟩ (.int .i64 lt.n)).setCell ⟨w.heap.size + 1, 2, none⟩ (.string lt.s)).setCell ⟨w.heap.size + 1, 3, none⟩ (.slice a2 lt.args.length c2)) :=
        (((Fr.set1 _ _ _ _).trans (Fr.set1 _ _ _ _)).trans (Fr.set1 _ _ _ _)).trans (Fr.set1 _ _ _ _)
      rw [← hlt]
      refine ⟨_, rfl, ⟨a2, c2, rfl, (hsl.fr hset fun b hb e => ?_).mono fun b hb => ?_⟩, Q.bel.trans (hset.below Q.bel.size fun k hk => by omega)⟩
      · rcases hb with hb | hb; omega; exact hb.2.2 e
      · rcases hb with hb | hb; exact .inl hb.1; exact .inr hb.1
    · obtain ⟨j, rfl⟩ : ∃ j, gk = j + 1 := ⟨gk - 1, by omega⟩
      have hjl := Q.le
      have hjn : j < n := by rw [HN.out.1]; omega
      obtain ⟨lt, hlt⟩ : ∃ lt, lt = listT (xs.drop (j + 1)) tail := ⟨_, rfl⟩
      rw [← hlt] at hbox hsl
      have hxr : SlC wr (fun b => I b ∧ b < w.heap.size) xs a c := HN.out.2.1.there.below Q.bel
      obtain ⟨bb, oo, ha, hts⟩ := hxr.2 (by omega)
      obtain ⟨a0, p0, x0, x1, x2, x3, hs0⟩ := hts.cells j (by omega)
      obtain ⟨t, ht⟩ : ∃ t, t = xs[j]'(by omega) := ⟨_, rfl⟩
      rw [← ht] at x0 x1 x2 x3 hs0
      have hlb := World.block_lt_of_cell? wr _ x0
      simp only at hlb
      have hbb : bb < w.heap.size := (TmC.iff.1 (hts.get j (by omega))).1.2
      have hbB : ¬ bb = B := by omega
      have y0 := cell_of_block hbox 0 (by simp)
      simp only [List.getElem_toArray, List.getElem_cons_zero, List.getElem_cons_succ] at y0
      have f0 := frozen_of_block hbox 0
      have y1 := cell_of_block hbox 1 (by simp)
      simp only [List.getElem_toArray, List.getElem_cons_zero, List.getElem_cons_succ] at y1
      have f1 := frozen_of_block hbox 1
      have y2 := cell_of_block hbox 2 (by simp)
      simp only [List.getElem_toArray, List.getElem_cons_zero, List.getElem_cons_succ] at y2
      have f2 := frozen_of_block hbox 2
      have y3 := cell_of_block hbox 3 (by simp)
      simp only [List.getElem_toArray, List.getElem_cons_zero, List.getElem_cons_succ] at y3
      have f3 := frozen_of_block hbox 3
      have HQ := Lib.hid (And.intro Q (And.intro hsl (And.intro hlt (And.intro hs0 (And.intro ht (And.intro hbox hres))))))
      clear Q hsl hlt hs0 ht hbox hres hts hxr
      subst ha
      simp only [Int.natCast_succ, Int.add_sub_cancel]
      go_wp2_with fail
      go_region
      all_goals
        go_wp2_with fail
        go_roundg j
        case measure => omega
        case rel =>
          refine ⟨rfl, ?_⟩
          obtain ⟨Q, hsl, hlt, hs0, ht, hbox, hres⟩ := HQ.out
          have hstep := RListRel.step Q hBw hlt (List.getElem?_eq_some_iff.2 ⟨_, ht.symm⟩) hbox hsl hs0
          first | exact hstep | exact hstep.drew
end Go.Proofs.YtkjkckdjenjgdaaDoor
