/- The walk over prolixlaw16.alive. -/
import Derived.Test.YtkjkckdjenjgdaaDoorGood
import Derived.Test.YtkjkckdjenjgdaaDoorRList
namespace Go.Proofs.YtkjkckdjenjgdaaDoor
open Go Go.RowKit
attribute [local go_sem ↓] Go.wp_at_zero Go.wp_at_succ

/-- A list's box. -/
structure LRel (N : Nat) (W0 : World) (t : Tm) (s3 : Value) (wc : World) : Prop where
  ex : ∃ p a c, s3 = .pointer (some ⟨p, 0, none⟩) ∧ N ≤ p ∧ wc.heap[p]? = some (.cells #[.int .i64 t.kind, .int .i64 t.n, .string t.s, .slice a t.args.length c] 28 (0, 0)) ∧ SlC wc (fun b => N ≤ b) t.args a c
  be : Below N W0 wc

set_option maxHeartbeats 4000000 in
set_option maxRecDepth 100000 in
theorem alive_any (w : World) : Calls Tryd.prog 6 #[] w fun e w' => e = .returned (.bool true) ∧ Below w.heap.size w w' := by
  go_enter Tryd.func6, Tryd.ntmps6
  go_upto_region 1 with (fail)
  go_cut [1, 2] (fun s1 s2 wc => DidRel w.heap.size w (didIs 1 (intT 3)) s1 s2 wc)
  case first =>
    go_wp2_with fail
    refine (lawa_any _ _).mono ?_
    rintro e w1 ⟨rfl, hb1⟩
    dsimp only [Act.put, tmVal, atomT, Tm.kind, Tm.n, Tm.s, Tm.args, List.length_nil]
    go_wp2_with fail
    refine (lawv_any _ _).mono ?_
    rintro e w2 ⟨rfl, hb2⟩
    dsimp only [Act.put, tmVal, varT, Tm.kind, Tm.n, Tm.s, Tm.args, List.length_nil]
    go_wp2_with fail
    refine (do_len_row _ 0 none none 0 0 w2.heap.size _ (by decide) (by decide) (heap_alloc_new _ _)).mono ?_
    rintro e w3 ⟨_, rfl, _, rfl, ⟨p1, q1, p2, q2, p3, q3, rfl, h1, h2, h3⟩, hb3⟩
    have s1 := hb1.size
    have s2 := hb2.size
    have s3 := hb3.size
    rw [World.size_alloc] at s3
    have hbe : Below w.heap.size w w3 := hb1.trans ((hb2.mono s1).trans (((Below.refl _ w2).alloc (by omega) _).trans (hb3.mono (by rw [World.size_alloc]; omega))))
    have HD2 := Lib.hid (And.intro h1 (And.intro h2 h3))
    have HB := Lib.hid (And.intro hbe (And.intro s1 (And.intro s2 s3)))
    clear h1 h2 h3 hb1 hb2 hb3 hbe s1 s2 s3
    dsimp only [Act.put, didVal, didIs, noT, intT, Tm.kind, Tm.n, Tm.s, Tm.args, List.length_nil, List.length_cons]
    go_wp2_with fail
    go_meet
    case rel =>
      obtain ⟨hbe, s1, s2, s3⟩ := HB.out
      refine ⟨rfl, ⟨_, p1, q1, p2, q2, p3, q3, rfl, ?_, ?_, ?_⟩, hbe.alloc (by omega) _⟩
      · simp only [World.size_alloc, World.size_setCell]; omega
      · omega
      · have hC := DidC.new' (d := didIs 1 (intT 3)) (N := w.heap.size) (T := 35) HD2.out (by simp only [World.size_alloc]; omega); exact hC
  case rest =>
    obtain ⟨rfl, ⟨P1, a1, c1, a2, c2, a3, c3, rfl, hl1, hN1, hC1⟩, hbe1⟩ := hcut
    have H1 := Lib.hid (And.intro hN1 (And.intro hC1 hbe1))
    clear hN1 hC1 hbe1
    go_upto_region 2 with (fail)
    obtain ⟨W1, hW1⟩ : ∃ W1, W1 = wc := ⟨_, rfl⟩
    rw [← hW1] at H1 hl1 ⊢
    clear hW1 wc
    go_cut [3] (fun s3 wc => LRel W1.heap.size W1 (lst false [97, 98]) s3 wc)
    case first =>
      go_wp2_with fail
      refine (lawa_any _ _).mono ?_
      rintro e w1 ⟨rfl, hb1⟩
      dsimp only [Act.put, tmVal, atomT, Tm.kind, Tm.n, Tm.s, Tm.args, List.length_nil]
      go_wp2_with fail
      refine (lawa_any _ _).mono ?_
      rintro e w2 ⟨rfl, hb2⟩
      dsimp only [Act.put, tmVal, atomT, Tm.kind, Tm.n, Tm.s, Tm.args, List.length_nil]
      go_wp2_with fail
      refine (lawa_any _ _).mono ?_
      rintro e w3 ⟨rfl, hb3⟩
      have s1 := hb1.size
      have s2 := hb2.size
      have s3 := hb3.size
      rw [World.size_alloc] at s3
      have hrow : w3.heap[w2.heap.size]? = some (.cells #[.int .i64 3, .int .i64 0, .string ⟨#[97]⟩, .slice none 0 0, .int .i64 3, .int .i64 0, .string ⟨#[98]⟩, .slice none 0 0] 28 (0, 0)) := (hb3.block _ (by rw [World.size_alloc]; omega)).trans (heap_alloc_new _ _)
      have hnil : ∀ (a : Option Addr) (c : Nat), SlC w3 (fun b => W1.heap.size ≤ b) [] a c := fun a c => ⟨Nat.zero_le _, fun h => by simp at h⟩
      have hx : SlC w3 (fun b => W1.heap.size ≤ b) [atomT ⟨#[97]⟩, atomT ⟨#[98]⟩] (some ⟨w2.heap.size, 0, none⟩) 2 := by
        refine ⟨Nat.le_refl _, fun _ => ⟨_, _, rfl, ?_⟩⟩
        simp only [TmsC, and_true]
        exact ⟨TmC.iff.2 ⟨by omega, cell_of_block hrow 0 (by simp), cell_of_block hrow 1 (by simp), cell_of_block hrow 2 (by simp), none, 0, cell_of_block hrow 3 (by simp), hnil _ _⟩,
          TmC.iff.2 ⟨by omega, cell_of_block hrow 4 (by simp), cell_of_block hrow 5 (by simp), cell_of_block hrow 6 (by simp), none, 0, cell_of_block hrow 7 (by simp), hnil _ _⟩⟩
      have hbe : Below W1.heap.size W1 w3 := hb1.trans ((hb2.mono s1).trans (((Below.refl _ w2).alloc (by omega) _).trans (hb3.mono (by rw [World.size_alloc]; omega))))
      have hh := rlist_any _ [atomT ⟨#[97]⟩, atomT ⟨#[98]⟩] (atomT ⟨#[91, 93]⟩) (some ⟨w2.heap.size, 0, none⟩) none 2 0 w3 hx (hnil none 0) (by decide)
      simp only [tmVal, atomT, Tm.kind_mk, Tm.n_mk, Tm.s_mk, Tm.args_mk, List.length_nil, List.length_cons] at hh
      dsimp only [Act.put, tmVal, atomT, Tm.kind, Tm.n, Tm.s, Tm.args, List.length_nil]
      have HB := Lib.hid (And.intro hbe (And.intro s1 (And.intro s2 s3)))
      clear hrow hnil hx hbe hb1 hb2 hb3 s1 s2 s3
      go_wp2_with fail
      (with_reducible refine Calls.mono hh ?_)
      clear hh
      rintro e w4 ⟨_, rfl, ⟨a, c, rfl, hsl⟩, hb4⟩
      obtain ⟨lt, hlt⟩ : ∃ lt, lt = lst false [97, 98] := ⟨_, rfl⟩
      have hsl' : SlC w4 (fun b => W1.heap.size ≤ b) lt.args a c := by rw [hlt]; exact hsl.mono fun b hb => by rcases hb with hb | hb; exact hb; have := HB.out; omega
      have he : (listT [Tm.mk 3 0 ⟨#[97]⟩ [], Tm.mk 3 0 ⟨#[98]⟩ []] (Tm.mk 3 0 ⟨#[91, 93]⟩ [])) = lt := by rw [hlt]; rfl
      rw [he]
      have HS := Lib.hid (And.intro hsl' (And.intro hb4 hlt))
      clear hsl hsl' hb4 he hlt
      dsimp only [Act.put, tmVal]
      go_wp2_with fail
      go_meet
      case rel =>
        obtain ⟨hbe, s1, s2, s3⟩ := HB.out
        obtain ⟨hsl', hb4, rfl⟩ := HS.out
        have s4 := hb4.size
        refine ⟨⟨_, a, c, rfl, by omega, heap_alloc_new _ _, hsl'.alloc _⟩, ?_⟩
        exact (hbe.trans (hb4.mono (by omega))).alloc (by omega) _
    case rest =>
      obtain ⟨⟨P3, a3', c3', rfl, hN3, hbox, hsl⟩, hbe2⟩ := hcut
      go_upto_region 3 with (fail)
      obtain ⟨W0, hW0⟩ : ∃ W0, W0 = wc := ⟨_, rfl⟩
      rw [← hW0] at hbox hsl hbe2 ⊢
      clear hW0 wc
      obtain ⟨lt, hlt⟩ : ∃ lt, lt = lst false [97, 98] := ⟨_, rfl⟩
      rw [← hlt] at hbox hsl
      have hok : OkList false lt [97, 98] := by rw [hlt]; exact ok_lst false [97, 98] (by decide)
      have hPN : P3 < W0.heap.size := (Array.getElem?_eq_some_iff.1 hbox).1
      obtain ⟨N, hN⟩ : ∃ N, N = W0.heap.size := ⟨_, rfl⟩
      rw [← hN] at hPN
      have hsz : N ≤ W0.heap.size := Nat.le_of_eq hN
      have x0 := cell_of_block hbox 0 (by simp)
      simp only [List.getElem_toArray, List.getElem_cons_zero, List.getElem_cons_succ] at x0
      have x1 := cell_of_block hbox 1 (by simp)
      simp only [List.getElem_toArray, List.getElem_cons_zero, List.getElem_cons_succ] at x1
      have x2 := cell_of_block hbox 2 (by simp)
      simp only [List.getElem_toArray, List.getElem_cons_zero, List.getElem_cons_succ] at x2
      have x3 := cell_of_block hbox 3 (by simp)
      simp only [List.getElem_toArray, List.getElem_cons_zero, List.getElem_cons_succ] at x3
      have HSZ := Lib.hid hN.symm
      have HSL := Lib.hid (show SlC W0 (fun b => W1.heap.size ≤ b ∧ b < N) lt.args a3' c3' from hN ▸ hsl.there)
      have H2 := Lib.hid (And.intro hbe2 (And.intro hok (And.intro hN3 hlt)))
      clear hbe2 hbox hsl hok hN3 hlt hN
      have hl1' : P1 < N := by have := H2.out.1.size; have := HSZ.out; omega
      go_cut [4, 5] (fun s4 s5 wc => DidRel N W0 (didIs 0 (atomT ⟨#[97, 98]⟩)) s4 s5 wc)
      case first =>
        go_region_held3 (fun w' => (∀ a : Addr, a.block < N → w'.cell? a = W0.cell? a) ∧ Hid (Below (N) W0 w' ∧ N ≤ w'.heap.size))
          (first | with_reducible exact kp_start HSZ.out | ((with_reducible apply kp_put7); all_goals (first | assumption | omega)) | ((with_reducible apply kp_re); all_goals (first | assumption | omega)) | ((with_reducible apply kp_keep); all_goals assumption) | ((with_reducible refine kp_alloc ?_); assumption) | ((with_reducible refine kp_ad ?_); assumption))
          (first | (go_at_call 16; refine Calls.mono (lawv_any 0 _) ?_; rintro e w1 ⟨rfl, hb1⟩; have hs1 := hb1.size; try simp only [World.size_alloc, World.size_drew] at hs1; (first | (have kv : w1.heap[W0.heap.size]? = some (.cells #[.bool false, .slice none 0 0, .slice none 0 0, .int .i64 0, .int .i64 0, .string ⟨#[]⟩, .slice none 0 0] 35 (0, 0)) := (hb1.block _ (by simp only [World.size_alloc, World.size_drew]; omega)).trans (by ((try rw [drew_heap]); (first | assumption | exact heap_new' (by first | omega | (simp only [World.size_alloc, World.size_setCell, World.size_drew]; done) | (simp only [World.size_alloc, World.size_setCell, World.size_drew]; omega)) | (refine heap_old' (by first | omega | (simp only [World.size_alloc, World.size_setCell, World.size_drew]; done) | (simp only [World.size_alloc, World.size_setCell, World.size_drew]; omega)) ?_; (try rw [drew_heap]); (first | assumption | exact heap_new' (by first | omega | (simp only [World.size_alloc, World.size_setCell, World.size_drew]; done) | (simp only [World.size_alloc, World.size_setCell, World.size_drew]; omega)) | (refine heap_old' (by first | omega | (simp only [World.size_alloc, World.size_setCell, World.size_drew]; done) | (simp only [World.size_alloc, World.size_setCell, World.size_drew]; omega)) ?_; (try rw [drew_heap]); (first | assumption | exact heap_new' (by first | omega | (simp only [World.size_alloc, World.size_setCell, World.size_drew]; done) | (simp only [World.size_alloc, World.size_setCell, World.size_drew]; omega)) | (refine heap_old' (by first | omega | (simp only [World.size_alloc, World.size_setCell, World.size_drew]; done) | (simp only [World.size_alloc, World.size_setCell, World.size_drew]; omega)) ?_; (try rw [drew_heap]); (first | assumption | exact heap_new' (by first | omega | (simp only [World.size_alloc, World.size_setCell, World.size_drew]; done) | (simp only [World.size_alloc, World.size_setCell, World.size_drew]; omega)) | (refine heap_old' (by first | omega | (simp only [World.size_alloc, World.size_setCell, World.size_drew]; done) | (simp only [World.size_alloc, World.size_setCell, World.size_drew]; omega)) ?_; (try rw [drew_heap]); (first | assumption | exact heap_new' (by first | omega | (simp only [World.size_alloc, World.size_setCell, World.size_drew]; done) | (simp only [World.size_alloc, World.size_setCell, World.size_drew]; omega)) | (refine heap_old' (by first | omega | (simp only [World.size_alloc, World.size_setCell, World.size_drew]; done) | (simp only [World.size_alloc, World.size_setCell, World.size_drew]; omega)) ?_; (try rw [drew_heap]); assumption))))))))))))) | skip); dsimp only [tmVal, varT, Tm.kind_mk, Tm.n_mk, Tm.s_mk, Tm.args_mk, List.length_nil]) | (go_at_call 10; refine Calls.mono (do_chars_row 0 lt [97, 98] none a3' 0 c3' _ _ _ (by decide) H2.out.2.1 (by ((try rw [drew_heap]); (first | assumption | exact heap_new' (by first | omega | (simp only [World.size_alloc, World.size_setCell, World.size_drew]; done) | (simp only [World.size_alloc, World.size_setCell, World.size_drew]; omega)) | (refine heap_old' (by first | omega | (simp only [World.size_alloc, World.size_setCell, World.size_drew]; done) | (simp only [World.size_alloc, World.size_setCell, World.size_drew]; omega)) ?_; (try rw [drew_heap]); (first | assumption | exact heap_new' (by first | omega | (simp only [World.size_alloc, World.size_setCell, World.size_drew]; done) | (simp only [World.size_alloc, World.size_setCell, World.size_drew]; omega)) | (refine heap_old' (by first | omega | (simp only [World.size_alloc, World.size_setCell, World.size_drew]; done) | (simp only [World.size_alloc, World.size_setCell, World.size_drew]; omega)) ?_; (try rw [drew_heap]); (first | assumption | exact heap_new' (by first | omega | (simp only [World.size_alloc, World.size_setCell, World.size_drew]; done) | (simp only [World.size_alloc, World.size_setCell, World.size_drew]; omega)) | (refine heap_old' (by first | omega | (simp only [World.size_alloc, World.size_setCell, World.size_drew]; done) | (simp only [World.size_alloc, World.size_setCell, World.size_drew]; omega)) ?_; (try rw [drew_heap]); (first | assumption | exact heap_new' (by first | omega | (simp only [World.size_alloc, World.size_setCell, World.size_drew]; done) | (simp only [World.size_alloc, World.size_setCell, World.size_drew]; omega)) | (refine heap_old' (by first | omega | (simp only [World.size_alloc, World.size_setCell, World.size_drew]; done) | (simp only [World.size_alloc, World.size_setCell, World.size_drew]; omega)) ?_; (try rw [drew_heap]); (first | assumption | exact heap_new' (by first | omega | (simp only [World.size_alloc, World.size_setCell, World.size_drew]; done) | (simp only [World.size_alloc, World.size_setCell, World.size_drew]; omega)) | (refine heap_old' (by first | omega | (simp only [World.size_alloc, World.size_setCell, World.size_drew]; done) | (simp only [World.size_alloc, World.size_setCell, World.size_drew]; omega)) ?_; (try rw [drew_heap]); assumption)))))))))))) (kp_sl HSL.out (by assumption))) ?_; rintro e w2 ⟨_, rfl, _, rfl, ⟨p1, q1, p2, q2, p3, q3, rfl, h1, h2, h3⟩, hb2⟩; have HD2 := Lib.hid (And.intro h1 (And.intro h2 h3)); clear h1 h2 h3; have hs2 := hb2.size; try simp only [World.size_alloc, World.size_drew] at hs2; (first | (have kd : w2.heap[W0.heap.size]? = some (.cells #[.bool false, .slice none 0 0, .slice none 0 0, .int .i64 0, .int .i64 0, .string ⟨#[]⟩, .slice none 0 0] 35 (0, 0)) := (hb2.block _ (by simp only [World.size_alloc, World.size_drew]; omega)).trans (by ((try rw [drew_heap]); (first | assumption | exact heap_new' (by first | omega | (simp only [World.size_alloc, World.size_setCell, World.size_drew]; done) | (simp only [World.size_alloc, World.size_setCell, World.size_drew]; omega)) | (refine heap_old' (by first | omega | (simp only [World.size_alloc, World.size_setCell, World.size_drew]; done) | (simp only [World.size_alloc, World.size_setCell, World.size_drew]; omega)) ?_; (try rw [drew_heap]); (first | assumption | exact heap_new' (by first | omega | (simp only [World.size_alloc, World.size_setCell, World.size_drew]; done) | (simp only [World.size_alloc, World.size_setCell, World.size_drew]; omega)) | (refine heap_old' (by first | omega | (simp only [World.size_alloc, World.size_setCell, World.size_drew]; done) | (simp only [World.size_alloc, World.size_setCell, World.size_drew]; omega)) ?_; (try rw [drew_heap]); (first | assumption | exact heap_new' (by first | omega | (simp only [World.size_alloc, World.size_setCell, World.size_drew]; done) | (simp only [World.size_alloc, World.size_setCell, World.size_drew]; omega)) | (refine heap_old' (by first | omega | (simp only [World.size_alloc, World.size_setCell, World.size_drew]; done) | (simp only [World.size_alloc, World.size_setCell, World.size_drew]; omega)) ?_; (try rw [drew_heap]); (first | assumption | exact heap_new' (by first | omega | (simp only [World.size_alloc, World.size_setCell, World.size_drew]; done) | (simp only [World.size_alloc, World.size_setCell, World.size_drew]; omega)) | (refine heap_old' (by first | omega | (simp only [World.size_alloc, World.size_setCell, World.size_drew]; done) | (simp only [World.size_alloc, World.size_setCell, World.size_drew]; omega)) ?_; (try rw [drew_heap]); (first | assumption | exact heap_new' (by first | omega | (simp only [World.size_alloc, World.size_setCell, World.size_drew]; done) | (simp only [World.size_alloc, World.size_setCell, World.size_drew]; omega)) | (refine heap_old' (by first | omega | (simp only [World.size_alloc, World.size_setCell, World.size_drew]; done) | (simp only [World.size_alloc, World.size_setCell, World.size_drew]; omega)) ?_; (try rw [drew_heap]); assumption)))))))))))); have kd' := Lib.hid kd; obtain ⟨⟨y0, y1, y2, y3, y4, y5, y6⟩, ⟨z0, z1, z2, z3, z4, z5, z6⟩⟩ := zd_facts kd; clear kd kv) | (have kd : w2.heap[w1.heap.size]? = some (.cells #[.bool false, .slice none 0 0, .slice none 0 0, .int .i64 0, .int .i64 0, .string ⟨#[]⟩, .slice none 0 0] 35 (0, 0)) := (hb2.block _ (by simp only [World.size_alloc, World.size_drew]; omega)).trans (by ((try rw [drew_heap]); (first | assumption | exact heap_new' (by first | omega | (simp only [World.size_alloc, World.size_setCell, World.size_drew]; done) | (simp only [World.size_alloc, World.size_setCell, World.size_drew]; omega)) | (refine heap_old' (by first | omega | (simp only [World.size_alloc, World.size_setCell, World.size_drew]; done) | (simp only [World.size_alloc, World.size_setCell, World.size_drew]; omega)) ?_; (try rw [drew_heap]); (first | assumption | exact heap_new' (by first | omega | (simp only [World.size_alloc, World.size_setCell, World.size_drew]; done) | (simp only [World.size_alloc, World.size_setCell, World.size_drew]; omega)) | (refine heap_old' (by first | omega | (simp only [World.size_alloc, World.size_setCell, World.size_drew]; done) | (simp only [World.size_alloc, World.size_setCell, World.size_drew]; omega)) ?_; (try rw [drew_heap]); (first | assumption | exact heap_new' (by first | omega | (simp only [World.size_alloc, World.size_setCell, World.size_drew]; done) | (simp only [World.size_alloc, World.size_setCell, World.size_drew]; omega)) | (refine heap_old' (by first | omega | (simp only [World.size_alloc, World.size_setCell, World.size_drew]; done) | (simp only [World.size_alloc, World.size_setCell, World.size_drew]; omega)) ?_; (try rw [drew_heap]); (first | assumption | exact heap_new' (by first | omega | (simp only [World.size_alloc, World.size_setCell, World.size_drew]; done) | (simp only [World.size_alloc, World.size_setCell, World.size_drew]; omega)) | (refine heap_old' (by first | omega | (simp only [World.size_alloc, World.size_setCell, World.size_drew]; done) | (simp only [World.size_alloc, World.size_setCell, World.size_drew]; omega)) ?_; (try rw [drew_heap]); (first | assumption | exact heap_new' (by first | omega | (simp only [World.size_alloc, World.size_setCell, World.size_drew]; done) | (simp only [World.size_alloc, World.size_setCell, World.size_drew]; omega)) | (refine heap_old' (by first | omega | (simp only [World.size_alloc, World.size_setCell, World.size_drew]; done) | (simp only [World.size_alloc, World.size_setCell, World.size_drew]; omega)) ?_; (try rw [drew_heap]); assumption)))))))))))); have kd' := Lib.hid kd; obtain ⟨⟨y0, y1, y2, y3, y4, y5, y6⟩, ⟨z0, z1, z2, z3, z4, z5, z6⟩⟩ := zd_facts kd; clear kd) | (have kd : w2.heap[w1.heap.size + 1]? = some (.cells #[.bool false, .slice none 0 0, .slice none 0 0, .int .i64 0, .int .i64 0, .string ⟨#[]⟩, .slice none 0 0] 35 (0, 0)) := (hb2.block _ (by simp only [World.size_alloc, World.size_drew]; omega)).trans (by ((try rw [drew_heap]); (first | assumption | exact heap_new' (by first | omega | (simp only [World.size_alloc, World.size_setCell, World.size_drew]; done) | (simp only [World.size_alloc, World.size_setCell, World.size_drew]; omega)) | (refine heap_old' (by first | omega | (simp only [World.size_alloc, World.size_setCell, World.size_drew]; done) | (simp only [World.size_alloc, World.size_setCell, World.size_drew]; omega)) ?_; (try rw [drew_heap]); (first | assumption | exact heap_new' (by first | omega | (simp only [World.size_alloc, World.size_setCell, World.size_drew]; done) | (simp only [World.size_alloc, World.size_setCell, World.size_drew]; omega)) | (refine heap_old' (by first | omega | (simp only [World.size_alloc, World.size_setCell, World.size_drew]; done) | (simp only [World.size_alloc, World.size_setCell, World.size_drew]; omega)) ?_; (try rw [drew_heap]); (first | assumption | exact heap_new' (by first | omega | (simp only [World.size_alloc, World.size_setCell, World.size_drew]; done) | (simp only [World.size_alloc, World.size_setCell, World.size_drew]; omega)) | (refine heap_old' (by first | omega | (simp only [World.size_alloc, World.size_setCell, World.size_drew]; done) | (simp only [World.size_alloc, World.size_setCell, World.size_drew]; omega)) ?_; (try rw [drew_heap]); (first | assumption | exact heap_new' (by first | omega | (simp only [World.size_alloc, World.size_setCell, World.size_drew]; done) | (simp only [World.size_alloc, World.size_setCell, World.size_drew]; omega)) | (refine heap_old' (by first | omega | (simp only [World.size_alloc, World.size_setCell, World.size_drew]; done) | (simp only [World.size_alloc, World.size_setCell, World.size_drew]; omega)) ?_; (try rw [drew_heap]); (first | assumption | exact heap_new' (by first | omega | (simp only [World.size_alloc, World.size_setCell, World.size_drew]; done) | (simp only [World.size_alloc, World.size_setCell, World.size_drew]; omega)) | (refine heap_old' (by first | omega | (simp only [World.size_alloc, World.size_setCell, World.size_drew]; done) | (simp only [World.size_alloc, World.size_setCell, World.size_drew]; omega)) ?_; (try rw [drew_heap]); assumption)))))))))))); have kd' := Lib.hid kd; obtain ⟨⟨y0, y1, y2, y3, y4, y5, y6⟩, ⟨z0, z1, z2, z3, z4, z5, z6⟩⟩ := zd_facts kd; clear kd) | skip); dsimp only [didVal, didIs, noT, atomT, Tm.kind_mk, Tm.n_mk, Tm.s_mk, Tm.args_mk, List.length_nil, List.length_cons]))
        all_goals
          have HK := Lib.hid (show Hid _ from (by assumption : _ ∧ _).2)
          go_wp2_with fail
          go_meet
          case rel =>
            have sz0 := HSZ.out
            have hk := HK.out.out.2
            refine ⟨rfl, ⟨_, p1, q1, p2, q2, p3, q3, rfl, ?_, ?_, ?_⟩, HK.out.out.1⟩
            · simp only [World.size_alloc, World.size_setCell]; omega
            · omega
            · first
                | (have hC := DidC.put' (d := didIs 0 (atomT ⟨#[97, 98]⟩)) (N := N) kd'.out rfl HD2.out (by simp only [World.size_alloc]; omega) (by simp only [World.size_alloc]; omega); exact hC)
                | (have hC := DidC.new' (d := didIs 0 (atomT ⟨#[97, 98]⟩)) (N := N) (T := 35) HD2.out (by simp only [World.size_alloc]; omega); exact hC)
      case rest =>
        obtain ⟨rfl, ⟨P4, b1, d1, b2, d2, b3, d3, rfl, hl4, hN4, hC4⟩, hbe4⟩ := hcut
        have H4 := Lib.hid (And.intro hC4 hbe4)
        clear hC4 hbe4 x0 x1 x2 x3
        go_wp2_with fail
        refine (do_foo _).mono ?_
        rintro e w6 ⟨rfl, hb6⟩
        obtain ⟨hC4, hbe4⟩ := H4.out
        obtain ⟨hN1, hC1, hbe1⟩ := H1.out
        obtain ⟨hbe2, _, _, _⟩ := H2.out
        have hN := HSZ.out
        have hbw : Below W1.heap.size W1 w6 := hbe2.trans ((hbe4.mono (by have := hbe2.size; omega)).trans (hb6.mono (by have := hbe2.size; have := hbe4.size; omega)))
        have hC1' := hC1.keep hbw
        have hC4' := hC4.keep hb6
        have hall : Below w.heap.size w w6 := hbe1.trans (hbw.mono hbe1.size)
        have e0 := hC1'.k0
        have e1 := hC1'.k1
        have e2 := hC1'.k2
        have g0 := hC4'.k0
        have g1 := hC4'.k1
        have g2 := hC4'.k2
        obtain ⟨eb, eo, rfl, _, ee⟩ := hC1'.h1.2 (by simp [didIs])
        have ee0 := ee 0 1 rfl
        obtain ⟨tb, tof, rfl, htt⟩ := hC1'.h2.2 (by simp [didIs])
        simp only [didIs] at htt
        obtain ⟨_, _, _, te1, _, _, _⟩ := htt.cells 0 (by simp)
        obtain ⟨fb, fo, rfl, _, ff⟩ := hC4'.h1.2 (by simp [didIs])
        have ff0 := ff 0 0 rfl
        obtain ⟨ub, uo, rfl, hut⟩ := hC4'.h2.2 (by simp [didIs])
        simp only [didIs] at hut
        obtain ⟨_, _, _, _, ue2, _, _⟩ := hut.cells 0 (by simp)
        simp only [didIs, List.length_cons, List.length_nil, Nat.zero_add, Nat.add_zero, Nat.zero_mul, List.getElem_cons_zero, intT, atomT, Tm.n_mk, Tm.s_mk] at e0 e1 e2 g0 g1 g2 ee0 te1 ff0 ue2
        have l1 := World.block_lt_of_cell? w6 _ e0
        have l2 := World.block_lt_of_cell? w6 _ g0
        have l3 := World.block_lt_of_cell? w6 _ ee0
        have l4 := World.block_lt_of_cell? w6 _ te1
        have l5 := World.block_lt_of_cell? w6 _ ff0
        have l6 := World.block_lt_of_cell? w6 _ ue2
        simp only at l1 l2 l3 l4 l5 l6
        have HA := Lib.hid hall
        clear hC4 hbe4 hN1 hC1 hbe1 hbe2 hN hbw hC1' hC4' hall ee htt ff hut hb6 H4 H1 H2 HSZ HSL hl1' hPN hN4 hl4 hl1 hsz
        dsimp only [Act.put, didVal, noT, Tm.kind, Tm.n, Tm.s, Tm.args, List.length_nil]
        go_wp2_with fail
        go_ret
        exact ⟨rfl, HA.out.alloc HA.out.size _⟩
end Go.Proofs.YtkjkckdjenjgdaaDoor
