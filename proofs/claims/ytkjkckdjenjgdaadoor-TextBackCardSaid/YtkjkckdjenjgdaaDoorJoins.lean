/- The walk over prolixlaw16.TextJoins. -/
import Derived.Test.YtkjkckdjenjgdaaDoorAlive
namespace Go.Proofs.YtkjkckdjenjgdaaDoor
open Go Go.RowKit
attribute [local go_sem ↓] Go.wp_at_zero Go.wp_at_succ

theorem append_assoc' (s t u : ByteArray) : s ++ t ++ u = s ++ (t ++ u) := ByteArray.append_assoc
theorem empty_append' (s : ByteArray) : (⟨#[]⟩ : ByteArray) ++ s = s := ByteArray.empty_append
theorem append_empty' (s : ByteArray) : s ++ (⟨#[]⟩ : ByteArray) = s := ByteArray.append_empty
theorem bchain {a b c : World} (h : Below a.heap.size a b) (k : Below b.heap.size b c) : Below a.heap.size a c := h.trans (k.mono h.size)
theorem beq_self (s : ByteArray) : (s.toList == s.toList) = true := by simp

set_option maxHeartbeats 1000000 in
theorem joins_long (s t u : ByteArray) (w : World) (h : ¬ (s.size ≤ 300 ∧ t.size ≤ 300 ∧ u.size ≤ 300)) (hs : s.size ≤ maxLen) (ht : t.size ≤ maxLen) (hu : u.size ≤ maxLen) :
    Calls Tryd.prog 5 #[.string s, .string t, .string u] w fun e w' => e = .returned (.bool true) ∧ Below w.heap.size w w' := by
  unfold maxLen at hs ht hu
  by_cases h1 : s.size ≤ 300
  · by_cases h2 : t.size ≤ 300
    · have h3 : ¬ u.size ≤ 300 := fun h3 => h ⟨h1, h2, h3⟩
      clear h
      go_enter Tryd.func5, Tryd.ntmps5
      go_wp2_with (go_at_call 6; refine Calls.mono (alive_any _) ?_; rintro e w1 ⟨rfl, hb1⟩; have HB1 := Lib.hid hb1; clear hb1)
      go_ret
      exact ⟨rfl, HB1.out⟩
    · clear h
      go_enter Tryd.func5, Tryd.ntmps5
      go_wp2_with (go_at_call 6; refine Calls.mono (alive_any _) ?_; rintro e w1 ⟨rfl, hb1⟩; have HB1 := Lib.hid hb1; clear hb1)
      go_ret
      exact ⟨rfl, HB1.out⟩
  · clear h
    go_enter Tryd.func5, Tryd.ntmps5
    go_wp2_with (go_at_call 6; refine Calls.mono (alive_any _) ?_; rintro e w1 ⟨rfl, hb1⟩; have HB1 := Lib.hid hb1; clear hb1)
    go_ret
    exact ⟨rfl, HB1.out⟩

set_option maxHeartbeats 4000000 in
set_option maxRecDepth 100000 in
theorem joins_short (s t u : ByteArray) (w : World) (hs : s.size ≤ 300) (ht : t.size ≤ 300) (hu : u.size ≤ 300) :
    Calls Tryd.prog 5 #[.string s, .string t, .string u] w fun e w' => e = .returned (.bool true) ∧ Below w.heap.size w w' := by
  have hst : (s ++ t).size ≤ 600 := by rw [ByteArray.size_append]; omega
  have htu : (t ++ u).size ≤ 600 := by rw [ByteArray.size_append]; omega
  have hstu : (s ++ t ++ u).size = s.size + t.size + u.size := by rw [ByteArray.size_append, ByteArray.size_append]
  have HSTU := Lib.hid hstu
  clear hstu
  go_enter Tryd.func5, Tryd.ntmps5
  go_upto_region 6 with (go_at_call 6; refine Calls.mono (alive_any _) ?_; rintro e wa ⟨rfl, hba⟩; have HBA := Lib.hid hba; clear hba)
  go_cut [8, 9] (fun s8 s9 wc => Below wa.heap.size wa wc ∧ ∃ p q a c a' c', s8 = .pointer (some ⟨p, 0, none⟩) ∧ s9 = .pointer (some ⟨q, 0, none⟩) ∧
    wc.heap[p]? = some (.cells #[.int .i64 3, .int .i64 0, .string (s ++ t ++ u), .slice a 0 c] 28 (0, 0)) ∧ wc.heap[q]? = some (.cells #[.int .i64 3, .int .i64 0, .string (s ++ t ++ u), .slice a' 0 c'] 28 (0, 0)))
  case first =>
    go_wp2_with fail
    refine (lawa_any s _).mono ?_
    rintro e w1 ⟨rfl, hb1⟩
    have B1 := Lib.hid hb1
    clear hb1
    dsimp only [Act.put, tmVal, atomT, varT, intT, Tm.kind, Tm.n, Tm.s, Tm.args, List.length_nil]
    go_wp2_with fail
    refine (lawa_any t _).mono ?_
    rintro e w2 ⟨rfl, hb2⟩
    have B2 := Lib.hid hb2
    clear hb2
    dsimp only [Act.put, tmVal, atomT, varT, intT, Tm.kind, Tm.n, Tm.s, Tm.args, List.length_nil]
    go_wp2_with fail
    have hh := join_atoms s t none none 0 0 w2 (by omega)
    simp only [tmVal, atomT, Tm.kind_mk, Tm.n_mk, Tm.s_mk, Tm.args_mk, List.length_nil] at hh
    (with_reducible refine Calls.mono hh ?_)
    clear hh
    rintro e w3 ⟨_, rfl, x1, y1, rfl, hb3⟩
    have B3 := Lib.hid hb3
    clear hb3
    dsimp only [Act.put, tmVal, atomT, varT, intT, Tm.kind, Tm.n, Tm.s, Tm.args, List.length_nil]
    go_wp2_with fail
    refine (lawa_any u _).mono ?_
    rintro e w4 ⟨rfl, hb4⟩
    have B4 := Lib.hid hb4
    clear hb4
    dsimp only [Act.put, tmVal, atomT, varT, intT, Tm.kind, Tm.n, Tm.s, Tm.args, List.length_nil]
    go_wp2_with fail
    have hh := join_atoms (s ++ t) u x1 none y1 0 w4 (by omega)
    simp only [tmVal, atomT, Tm.kind_mk, Tm.n_mk, Tm.s_mk, Tm.args_mk, List.length_nil] at hh
    (with_reducible refine Calls.mono hh ?_)
    clear hh
    rintro e w5 ⟨_, rfl, x2, y2, rfl, hb5⟩
    have B5 := Lib.hid hb5
    clear hb5
    dsimp only [Act.put, tmVal, atomT, varT, intT, Tm.kind, Tm.n, Tm.s, Tm.args, List.length_nil]
    go_wp2_with fail
    refine (lawa_any s _).mono ?_
    rintro e w6 ⟨rfl, hb6⟩
    have B6 := Lib.hid hb6
    clear hb6
    dsimp only [Act.put, tmVal, atomT, varT, intT, Tm.kind, Tm.n, Tm.s, Tm.args, List.length_nil]
    go_wp2_with fail
    refine (lawa_any t _).mono ?_
    rintro e w7 ⟨rfl, hb7⟩
    have B7 := Lib.hid hb7
    clear hb7
    dsimp only [Act.put, tmVal, atomT, varT, intT, Tm.kind, Tm.n, Tm.s, Tm.args, List.length_nil]
    go_wp2_with fail
    refine (lawa_any u _).mono ?_
    rintro e w8 ⟨rfl, hb8⟩
    have B8 := Lib.hid hb8
    clear hb8
    dsimp only [Act.put, tmVal, atomT, varT, intT, Tm.kind, Tm.n, Tm.s, Tm.args, List.length_nil]
    go_wp2_with fail
    have hh := join_atoms t u none none 0 0 w8 (by omega)
    simp only [tmVal, atomT, Tm.kind_mk, Tm.n_mk, Tm.s_mk, Tm.args_mk, List.length_nil] at hh
    (with_reducible refine Calls.mono hh ?_)
    clear hh
    rintro e w9 ⟨_, rfl, x3, y3, rfl, hb9⟩
    have B9 := Lib.hid hb9
    clear hb9
    dsimp only [Act.put, tmVal, atomT, varT, intT, Tm.kind, Tm.n, Tm.s, Tm.args, List.length_nil]
    go_wp2_with fail
    have hh := join_atoms s (t ++ u) none x3 0 y3 w9 (by omega)
    simp only [tmVal, atomT, Tm.kind_mk, Tm.n_mk, Tm.s_mk, Tm.args_mk, List.length_nil] at hh
    (with_reducible refine Calls.mono hh ?_)
    clear hh
    rintro e w10 ⟨_, rfl, x4, y4, rfl, hb10⟩
    have B10 := Lib.hid hb10
    clear hb10
    dsimp only [Act.put, tmVal, atomT, varT, intT, Tm.kind, Tm.n, Tm.s, Tm.args, List.length_nil]
    go_wp2_with fail
    go_meet
    case rel =>
      have hbe : Below wa.heap.size wa w10 := bchain (bchain (bchain (bchain (bchain (bchain (bchain (bchain (bchain (B1.out) B2.out) B3.out) B4.out) B5.out) B6.out) B7.out) B8.out) B9.out) B10.out
      refine ⟨(hbe.alloc hbe.size _).alloc (by have := hbe.size; simp only [World.size_alloc]; omega) _, _, _, x2, y2, x4, y4, rfl, rfl, heap_old' (by simp) (heap_alloc_new _ _), ?_⟩
      rw [append_assoc' s t u]
      exact heap_new' (by simp)
  case rest =>
    obtain ⟨hbe, P8, P9, aL, cL, aR, cR, rfl, rfl, hL, hR⟩ := hcut
    obtain ⟨Z, hZ⟩ : ∃ Z, Z = s ++ t ++ u := ⟨_, rfl⟩
    have hZs : Z.size = s.size + t.size + u.size := by rw [hZ]; exact HSTU.out
    rw [← hZ] at hL hR
    have HZ := Lib.hid (And.intro hZs (And.intro hZ hbe))
    clear hst htu HSTU hbe
    have hZl : Z.size ≤ 1000 := by omega
    clear hZs hZ
    go_upto_region 7 with (fail)
    obtain ⟨W0, hW0⟩ : ∃ W0, W0 = wc := ⟨_, rfl⟩
    rw [← hW0] at hL hR HZ ⊢
    clear hW0 wc
    have hPN : P8 < W0.heap.size := (Array.getElem?_eq_some_iff.1 hL).1
    have hPN9 : P9 < W0.heap.size := (Array.getElem?_eq_some_iff.1 hR).1
    obtain ⟨N, hN⟩ : ∃ N, N = W0.heap.size := ⟨_, rfl⟩
    rw [← hN] at hPN hPN9
    have hsz : N ≤ W0.heap.size := Nat.le_of_eq hN
    have x0 := cell_of_block hL 0 (by simp)
    simp only [List.getElem_toArray, List.getElem_cons_zero, List.getElem_cons_succ] at x0
    have x1 := cell_of_block hL 1 (by simp)
    simp only [List.getElem_toArray, List.getElem_cons_zero, List.getElem_cons_succ] at x1
    have x2 := cell_of_block hL 2 (by simp)
    simp only [List.getElem_toArray, List.getElem_cons_zero, List.getElem_cons_succ] at x2
    have x3 := cell_of_block hL 3 (by simp)
    simp only [List.getElem_toArray, List.getElem_cons_zero, List.getElem_cons_succ] at x3
    have HSZ := Lib.hid hN.symm
    have H2 := Lib.hid (And.intro hL hR)
    clear hL hR hN
    go_cut [10, 11] (fun s10 s11 wc => DidRel N W0 (didIs 1 (intT Z.size)) s10 s11 wc)
    case first =>
      go_region_held3 (fun w' => (∀ a : Addr, a.block < N → w'.cell? a = W0.cell? a) ∧ Hid (Below (N) W0 w' ∧ N ≤ w'.heap.size))
        (first | with_reducible exact kp_start HSZ.out | ((with_reducible apply kp_put7); all_goals (first | assumption | omega)) | ((with_reducible apply kp_re); all_goals (first | assumption | omega)) | ((with_reducible apply kp_keep); all_goals assumption) | ((with_reducible refine kp_alloc ?_); assumption) | ((with_reducible refine kp_ad ?_); assumption))
        (first | (go_at_call 16; refine Calls.mono (lawv_any 0 _) ?_; rintro e w1 ⟨rfl, hb1⟩; have hs1 := hb1.size; try simp only [World.size_alloc, World.size_drew] at hs1; (first | (have kv : w1.heap[W0.heap.size]? = some (.cells #[.bool false, .slice none 0 0, .slice none 0 0, .int .i64 0, .int .i64 0, .string ⟨#[]⟩, .slice none 0 0] 35 (0, 0)) := (hb1.block _ (by simp only [World.size_alloc, World.size_drew]; omega)).trans (by ((try rw [drew_heap]); (first | assumption | exact heap_new' (by first | omega | (simp only [World.size_alloc, World.size_setCell, World.size_drew]; done) | (simp only [World.size_alloc, World.size_setCell, World.size_drew]; omega)) | (refine heap_old' (by first | omega | (simp only [World.size_alloc, World.size_setCell, World.size_drew]; done) | (simp only [World.size_alloc, World.size_setCell, World.size_drew]; omega)) ?_; (try rw [drew_heap]); (first | assumption | exact heap_new' (by first | omega | (simp only [World.size_alloc, World.size_setCell, World.size_drew]; done) | (simp only [World.size_alloc, World.size_setCell, World.size_drew]; omega)) | (refine heap_old' (by first | omega | (simp only [World.size_alloc, World.size_setCell, World.size_drew]; done) | (simp only [World.size_alloc, World.size_setCell, World.size_drew]; omega)) ?_; (try rw [drew_heap]); (first | assumption | exact heap_new' (by first | omega | (simp only [World.size_alloc, World.size_setCell, World.size_drew]; done) | (simp only [World.size_alloc, World.size_setCell, World.size_drew]; omega)) | (refine heap_old' (by first | omega | (simp only [World.size_alloc, World.size_setCell, World.size_drew]; done) | (simp only [World.size_alloc, World.size_setCell, World.size_drew]; omega)) ?_; (try rw [drew_heap]); (first | assumption | exact heap_new' (by first | omega | (simp only [World.size_alloc, World.size_setCell, World.size_drew]; done) | (simp only [World.size_alloc, World.size_setCell, World.size_drew]; omega)) | (refine heap_old' (by first | omega | (simp only [World.size_alloc, World.size_setCell, World.size_drew]; done) | (simp only [World.size_alloc, World.size_setCell, World.size_drew]; omega)) ?_; (try rw [drew_heap]); (first | assumption | exact heap_new' (by first | omega | (simp only [World.size_alloc, World.size_setCell, World.size_drew]; done) | (simp only [World.size_alloc, World.size_setCell, World.size_drew]; omega)) | (refine heap_old' (by first | omega | (simp only [World.size_alloc, World.size_setCell, World.size_drew]; done) | (simp only [World.size_alloc, World.size_setCell, World.size_drew]; omega)) ?_; (try rw [drew_heap]); assumption))))))))))))) | skip); dsimp only [tmVal, varT, Tm.kind_mk, Tm.n_mk, Tm.s_mk, Tm.args_mk, List.length_nil]) | (go_at_call 10; refine Calls.mono (do_len_row Z 0 aL none cL 0 _ _ hZl (by decide) (by ((try rw [drew_heap]); (first | assumption | exact heap_new' (by first | omega | (simp only [World.size_alloc, World.size_setCell, World.size_drew]; done) | (simp only [World.size_alloc, World.size_setCell, World.size_drew]; omega)) | (refine heap_old' (by first | omega | (simp only [World.size_alloc, World.size_setCell, World.size_drew]; done) | (simp only [World.size_alloc, World.size_setCell, World.size_drew]; omega)) ?_; (try rw [drew_heap]); (first | assumption | exact heap_new' (by first | omega | (simp only [World.size_alloc, World.size_setCell, World.size_drew]; done) | (simp only [World.size_alloc, World.size_setCell, World.size_drew]; omega)) | (refine heap_old' (by first | omega | (simp only [World.size_alloc, World.size_setCell, World.size_drew]; done) | (simp only [World.size_alloc, World.size_setCell, World.size_drew]; omega)) ?_; (try rw [drew_heap]); (first | assumption | exact heap_new' (by first | omega | (simp only [World.size_alloc, World.size_setCell, World.size_drew]; done) | (simp only [World.size_alloc, World.size_setCell, World.size_drew]; omega)) | (refine heap_old' (by first | omega | (simp only [World.size_alloc, World.size_setCell, World.size_drew]; done) | (simp only [World.size_alloc, World.size_setCell, World.size_drew]; omega)) ?_; (try rw [drew_heap]); (first | assumption | exact heap_new' (by first | omega | (simp only [World.size_alloc, World.size_setCell, World.size_drew]; done) | (simp only [World.size_alloc, World.size_setCell, World.size_drew]; omega)) | (refine heap_old' (by first | omega | (simp only [World.size_alloc, World.size_setCell, World.size_drew]; done) | (simp only [World.size_alloc, World.size_setCell, World.size_drew]; omega)) ?_; (try rw [drew_heap]); (first | assumption | exact heap_new' (by first | omega | (simp only [World.size_alloc, World.size_setCell, World.size_drew]; done) | (simp only [World.size_alloc, World.size_setCell, World.size_drew]; omega)) | (refine heap_old' (by first | omega | (simp only [World.size_alloc, World.size_setCell, World.size_drew]; done) | (simp only [World.size_alloc, World.size_setCell, World.size_drew]; omega)) ?_; (try rw [drew_heap]); assumption))))))))))))) ?_; rintro e w2 ⟨_, rfl, _, rfl, ⟨p1, q1, p2, q2, p3, q3, rfl, h1, h2, h3⟩, hb2⟩; have HD2 := Lib.hid (And.intro h1 (And.intro h2 h3)); clear h1 h2 h3; have hs2 := hb2.size; try simp only [World.size_alloc, World.size_drew] at hs2; (first | (have kd : w2.heap[W0.heap.size]? = some (.cells #[.bool false, .slice none 0 0, .slice none 0 0, .int .i64 0, .int .i64 0, .string ⟨#[]⟩, .slice none 0 0] 35 (0, 0)) := (hb2.block _ (by simp only [World.size_alloc, World.size_drew]; omega)).trans (by ((try rw [drew_heap]); (first | assumption | exact heap_new' (by first | omega | (simp only [World.size_alloc, World.size_setCell, World.size_drew]; done) | (simp only [World.size_alloc, World.size_setCell, World.size_drew]; omega)) | (refine heap_old' (by first | omega | (simp only [World.size_alloc, World.size_setCell, World.size_drew]; done) | (simp only [World.size_alloc, World.size_setCell, World.size_drew]; omega)) ?_; (try rw [drew_heap]); (first | assumption | exact heap_new' (by first | omega | (simp only [World.size_alloc, World.size_setCell, World.size_drew]; done) | (simp only [World.size_alloc, World.size_setCell, World.size_drew]; omega)) | (refine heap_old' (by first | omega | (simp only [World.size_alloc, World.size_setCell, World.size_drew]; done) | (simp only [World.size_alloc, World.size_setCell, World.size_drew]; omega)) ?_; (try rw [drew_heap]); (first | assumption | exact heap_new' (by first | omega | (simp only [World.size_alloc, World.size_setCell, World.size_drew]; done) | (simp only [World.size_alloc, World.size_setCell, World.size_drew]; omega)) | (refine heap_old' (by first | omega | (simp only [World.size_alloc, World.size_setCell, World.size_drew]; done) | (simp only [World.size_alloc, World.size_setCell, World.size_drew]; omega)) ?_; (try rw [drew_heap]); (first | assumption | exact heap_new' (by first | omega | (simp only [World.size_alloc, World.size_setCell, World.size_drew]; done) | (simp only [World.size_alloc, World.size_setCell, World.size_drew]; omega)) | (refine heap_old' (by first | omega | (simp only [World.size_alloc, World.size_setCell, World.size_drew]; done) | (simp only [World.size_alloc, World.size_setCell, World.size_drew]; omega)) ?_; (try rw [drew_heap]); (first | assumption | exact heap_new' (by first | omega | (simp only [World.size_alloc, World.size_setCell, World.size_drew]; done) | (simp only [World.size_alloc, World.size_setCell, World.size_drew]; omega)) | (refine heap_old' (by first | omega | (simp only [World.size_alloc, World.size_setCell, World.size_drew]; done) | (simp only [World.size_alloc, World.size_setCell, World.size_drew]; omega)) ?_; (try rw [drew_heap]); assumption)))))))))))); have kd' := Lib.hid kd; obtain ⟨⟨y0, y1, y2, y3, y4, y5, y6⟩, ⟨z0, z1, z2, z3, z4, z5, z6⟩⟩ := zd_facts kd; clear kd kv) | (have kd : w2.heap[w1.heap.size]? = some (.cells #[.bool false, .slice none 0 0, .slice none 0 0, .int .i64 0, .int .i64 0, .string ⟨#[]⟩, .slice none 0 0] 35 (0, 0)) := (hb2.block _ (by simp only [World.size_alloc, World.size_drew]; omega)).trans (by ((try rw [drew_heap]); (first | assumption | exact heap_new' (by first | omega | (simp only [World.size_alloc, World.size_setCell, World.size_drew]; done) | (simp only [World.size_alloc, World.size_setCell, World.size_drew]; omega)) | (refine heap_old' (by first | omega | (simp only [World.size_alloc, World.size_setCell, World.size_drew]; done) | (simp only [World.size_alloc, World.size_setCell, World.size_drew]; omega)) ?_; (try rw [drew_heap]); (first | assumption | exact heap_new' (by first | omega | (simp only [World.size_alloc, World.size_setCell, World.size_drew]; done) | (simp only [World.size_alloc, World.size_setCell, World.size_drew]; omega)) | (refine heap_old' (by first | omega | (simp only [World.size_alloc, World.size_setCell, World.size_drew]; done) | (simp only [World.size_alloc, World.size_setCell, World.size_drew]; omega)) ?_; (try rw [drew_heap]); (first | assumption | exact heap_new' (by first | omega | (simp only [World.size_alloc, World.size_setCell, World.size_drew]; done) | (simp only [World.size_alloc, World.size_setCell, World.size_drew]; omega)) | (refine heap_old' (by first | omega | (simp only [World.size_alloc, World.size_setCell, World.size_drew]; done) | (simp only [World.size_alloc, World.size_setCell, World.size_drew]; omega)) ?_; (try rw [drew_heap]); (first | assumption | exact heap_new' (by first | omega | (simp only [World.size_alloc, World.size_setCell, World.size_drew]; done) | (simp only [World.size_alloc, World.size_setCell, World.size_drew]; omega)) | (refine heap_old' (by first | omega | (simp only [World.size_alloc, World.size_setCell, World.size_drew]; done) | (simp only [World.size_alloc, World.size_setCell, World.size_drew]; omega)) ?_; (try rw [drew_heap]); (first | assumption | exact heap_new' (by first | omega | (simp only [World.size_alloc, World.size_setCell, World.size_drew]; done) | (simp only [World.size_alloc, World.size_setCell, World.size_drew]; omega)) | (refine heap_old' (by first | omega | (simp only [World.size_alloc, World.size_setCell, World.size_drew]; done) | (simp only [World.size_alloc, World.size_setCell, World.size_drew]; omega)) ?_; (try rw [drew_heap]); assumption)))))))))))); have kd' := Lib.hid kd; obtain ⟨⟨y0, y1, y2, y3, y4, y5, y6⟩, ⟨z0, z1, z2, z3, z4, z5, z6⟩⟩ := zd_facts kd; clear kd) | (have kd : w2.heap[w1.heap.size + 1]? = some (.cells #[.bool false, .slice none 0 0, .slice none 0 0, .int .i64 0, .int .i64 0, .string ⟨#[]⟩, .slice none 0 0] 35 (0, 0)) := (hb2.block _ (by simp only [World.size_alloc, World.size_drew]; omega)).trans (by ((try rw [drew_heap]); (first | assumption | exact heap_new' (by first | omega | (simp only [World.size_alloc, World.size_setCell, World.size_drew]; done) | (simp only [World.size_alloc, World.size_setCell, World.size_drew]; omega)) | (refine heap_old' (by first | omega | (simp only [World.size_alloc, World.size_setCell, World.size_drew]; done) | (simp only [World.size_alloc, World.size_setCell, World.size_drew]; omega)) ?_; (try rw [drew_heap]); (first | assumption | exact heap_new' (by first | omega | (simp only [World.size_alloc, World.size_setCell, World.size_drew]; done) | (simp only [World.size_alloc, World.size_setCell, World.size_drew]; omega)) | (refine heap_old' (by first | omega | (simp only [World.size_alloc, World.size_setCell, World.size_drew]; done) | (simp only [World.size_alloc, World.size_setCell, World.size_drew]; omega)) ?_; (try rw [drew_heap]); (first | assumption | exact heap_new' (by first | omega | (simp only [World.size_alloc, World.size_setCell, World.size_drew]; done) | (simp only [World.size_alloc, World.size_setCell, World.size_drew]; omega)) | (refine heap_old' (by first | omega | (simp only [World.size_alloc, World.size_setCell, World.size_drew]; done) | (simp only [World.size_alloc, World.size_setCell, World.size_drew]; omega)) ?_; (try rw [drew_heap]); (first | assumption | exact heap_new' (by first | omega | (simp only [World.size_alloc, World.size_setCell, World.size_drew]; done) | (simp only [World.size_alloc, World.size_setCell, World.size_drew]; omega)) | (refine heap_old' (by first | omega | (simp only [World.size_alloc, World.size_setCell, World.size_drew]; done) | (simp only [World.size_alloc, World.size_setCell, World.size_drew]; omega)) ?_; (try rw [drew_heap]); (first | assumption | exact heap_new' (by first | omega | (simp only [World.size_alloc, World.size_setCell, World.size_drew]; done) | (simp only [World.size_alloc, World.size_setCell, World.size_drew]; omega)) | (refine heap_old' (by first | omega | (simp only [World.size_alloc, World.size_setCell, World.size_drew]; done) | (simp only [World.size_alloc, World.size_setCell, World.size_drew]; omega)) ?_; (try rw [drew_heap]); assumption)))))))))))); have kd' := Lib.hid kd; obtain ⟨⟨y0, y1, y2, y3, y4, y5, y6⟩, ⟨z0, z1, z2, z3, z4, z5, z6⟩⟩ := zd_facts kd; clear kd) | skip); dsimp only [didVal, didIs, noT, intT, Tm.kind_mk, Tm.n_mk, Tm.s_mk, Tm.args_mk, List.length_nil, List.length_cons]))
      all_goals
        have HK := Lib.hid (show Hid _ from (by assumption : _ ∧ _).2)
        go_wp2_with fail
        go_meet
        case rel =>
          have sz0 := HSZ.out
          have hk := HK.out.out.2
          refine ⟨rfl, ⟨_, p1, q1, p2, q2, p3, q3, rfl, ?_, ?_, ?_⟩, HK.out.out.1⟩
          · simp only [World.size_alloc, World.size_setCell]; omega
          · omega
          · first
              | (have hC := DidC.put' (d := didIs 1 (intT Z.size)) (N := N) kd'.out rfl HD2.out (by simp only [World.size_alloc]; omega) (by simp only [World.size_alloc]; omega); exact hC)
              | (have hC := DidC.new' (d := didIs 1 (intT Z.size)) (N := N) (T := 35) HD2.out (by simp only [World.size_alloc]; omega); exact hC)
    case rest =>
      obtain ⟨rfl, ⟨P10, b1, d1, b2, d2, b3, d3, rfl, hpl, hpN, hC⟩, hbe⟩ := hcut
      have k0 := hC.k0
      have k1 := hC.k1
      have k2 := hC.k2
      have k3 := hC.k3
      have k4 := hC.k4
      have k5 := hC.k5
      have k6 := hC.k6
      simp only [didIs, noT, intT, Tm.kind_mk, Tm.n_mk, Tm.s_mk, Tm.args_mk, List.length_nil, List.length_cons, Nat.zero_add] at k0 k1 k2 k3 k4 k5 k6
      have HC := Lib.hid hC
      have HBE := Lib.hid hbe
      clear hC hbe x0 x1 x2 x3
      go_wp2_with fail
      refine (only_is 1 (intT Z.size) _ _ _ (DidC.val HC.out)).mono ?_
      rintro e w1 ⟨_, rfl, a, c, rfl, hsl, hb1⟩
      have hL1 : w1.heap[P8]? = some (.cells #[.int .i64 3, .int .i64 0, .string Z, .slice aL 0 cL] 28 (0, 0)) := by rw [hb1.block _ (by omega), HBE.out.block _ hPN]; exact H2.out.1
      have hR1 : w1.heap[P9]? = some (.cells #[.int .i64 3, .int .i64 0, .string Z, .slice aR 0 cR] 28 (0, 0)) := by rw [hb1.block _ (by have := HBE.out.size; omega), HBE.out.block _ hPN9]; exact H2.out.2
      have hs1 := hb1.size
      have hbeN : N ≤ w1.heap.size := by omega
      have hall : Below W0.heap.size W0 w1 := by have h := HBE.out; rw [← HSZ.out] at h; exact bchain h (hb1.mono (Nat.le_refl _))
      have HF := Lib.hid (And.intro hall hsl)
      clear hsl hb1 hall k0 k1 k2 k3 k4 k5 k6
      have x0 := cell_of_block hL1 0 (by simp)
      simp only [List.getElem_toArray, List.getElem_cons_zero, List.getElem_cons_succ] at x0
      have x1 := cell_of_block hL1 1 (by simp)
      simp only [List.getElem_toArray, List.getElem_cons_zero, List.getElem_cons_succ] at x1
      have x2 := cell_of_block hL1 2 (by simp)
      simp only [List.getElem_toArray, List.getElem_cons_zero, List.getElem_cons_succ] at x2
      have x3 := cell_of_block hL1 3 (by simp)
      simp only [List.getElem_toArray, List.getElem_cons_zero, List.getElem_cons_succ] at x3
      have y0 := cell_of_block hR1 0 (by simp)
      simp only [List.getElem_toArray, List.getElem_cons_zero, List.getElem_cons_succ] at y0
      have y1 := cell_of_block hR1 1 (by simp)
      simp only [List.getElem_toArray, List.getElem_cons_zero, List.getElem_cons_succ] at y1
      have y2 := cell_of_block hR1 2 (by simp)
      simp only [List.getElem_toArray, List.getElem_cons_zero, List.getElem_cons_succ] at y2
      have y3 := cell_of_block hR1 3 (by simp)
      simp only [List.getElem_toArray, List.getElem_cons_zero, List.getElem_cons_succ] at y3
      clear hL1 hR1
      have hp8 : P8 < w1.heap.size := by omega
      have hp9 : P9 < w1.heap.size := by omega
      dsimp only [Act.put, tmVal, intT, Tm.kind, Tm.n, Tm.s, Tm.args, List.length_nil]
      go_wp2_with fail
      refine (sameRef_atoms Z Z aL aR cL cR _).mono ?_
      rintro e w2 ⟨rfl, hb2⟩
      rw [beq_self]
      have z1 : w2.cell? ⟨w1.heap.size, 1, none⟩ = some (.int .i64 Z.size) := (hb2.cell (by simp)).trans (cell_of_block (heap_alloc_new _ _) 1 (by simp))
      have hzl : w1.heap.size < w2.heap.size := by have := hb2.size; simp only [World.size_alloc] at this; omega
      have hZi : (Z.size : Int) = s.size + t.size + u.size := by have := HZ.out.1; omega
      have HB2 := Lib.hid (And.intro hb2 hzl)
      clear hb2 x0 x1 x2 x3 y0 y1 y2 y3
      dsimp only [Act.put]
      go_wp2_with fail
      refine (lawa_any _ _).mono ?_
      rintro e w3 ⟨rfl, hb3⟩
      have HB3 := Lib.hid hb3
      clear hb3 z1 hZi hzl
      dsimp only [Act.put, tmVal, atomT, Tm.kind, Tm.n, Tm.s, Tm.args, List.length_nil]
      go_wp2_with fail
      refine (lawa_any _ _).mono ?_
      rintro e w4 ⟨rfl, hb4⟩
      have HB4 := Lib.hid hb4
      clear hb4
      dsimp only [Act.put, tmVal, atomT, Tm.kind, Tm.n, Tm.s, Tm.args, List.length_nil]
      go_wp2_with fail
      have hh := join_atoms ⟨#[]⟩ s none none 0 0 w4 (by show 0 + s.size ≤ 1000; omega)
      rw [empty_append'] at hh
      simp only [tmVal, atomT, Tm.kind_mk, Tm.n_mk, Tm.s_mk, Tm.args_mk, List.length_nil] at hh
      (with_reducible refine Calls.mono hh ?_)
      clear hh
      rintro e w5 ⟨_, rfl, xa, ya, rfl, hb5⟩
      have HB5 := Lib.hid hb5
      clear hb5
      dsimp only [Act.put]
      go_wp2_with fail
      refine (lawa_any _ _).mono ?_
      rintro e w6 ⟨rfl, hb6⟩
      have HB6 := Lib.hid hb6
      clear hb6
      dsimp only [Act.put, tmVal, atomT, Tm.kind, Tm.n, Tm.s, Tm.args, List.length_nil]
      go_wp2_with fail
      refine (sameRef_atoms s s xa none ya 0 _).mono ?_
      rintro e w7 ⟨rfl, hb7⟩
      rw [beq_self]
      have HB7 := Lib.hid hb7
      clear hb7
      dsimp only [Act.put]
      go_wp2_with fail
      refine (lawa_any _ _).mono ?_
      rintro e w8 ⟨rfl, hb8⟩
      have HB8 := Lib.hid hb8
      clear hb8
      dsimp only [Act.put, tmVal, atomT, Tm.kind, Tm.n, Tm.s, Tm.args, List.length_nil]
      go_wp2_with fail
      refine (lawa_any _ _).mono ?_
      rintro e w9 ⟨rfl, hb9⟩
      have HB9 := Lib.hid hb9
      clear hb9
      dsimp only [Act.put, tmVal, atomT, Tm.kind, Tm.n, Tm.s, Tm.args, List.length_nil]
      go_wp2_with fail
      have hh := join_atoms s ⟨#[]⟩ none none 0 0 w9 (by show s.size + 0 ≤ 1000; omega)
      rw [append_empty'] at hh
      simp only [tmVal, atomT, Tm.kind_mk, Tm.n_mk, Tm.s_mk, Tm.args_mk, List.length_nil] at hh
      (with_reducible refine Calls.mono hh ?_)
      clear hh
      rintro e w10 ⟨_, rfl, xb, yb, rfl, hb10⟩
      have HB10 := Lib.hid hb10
      clear hb10
      dsimp only [Act.put]
      go_wp2_with fail
      refine (lawa_any _ _).mono ?_
      rintro e w11 ⟨rfl, hb11⟩
      have HB11 := Lib.hid hb11
      clear hb11
      dsimp only [Act.put, tmVal, atomT, Tm.kind, Tm.n, Tm.s, Tm.args, List.length_nil]
      go_wp2_with fail
      refine (sameRef_atoms s s xb none yb 0 _).mono ?_
      rintro e w12 ⟨rfl, hb12⟩
      rw [beq_self]
      have HB12 := Lib.hid hb12
      clear hb12
      dsimp only [Act.put]
      go_wp2_with fail
      go_ret
      refine ⟨rfl, ?_⟩
      have h1 : Below w.heap.size w W0 := bchain HBA.out HZ.out.2.2
      have h2 : Below w1.heap.size w1 w2 := ((Below.refl _ _).alloc (Nat.le_refl _) _).trans (HB2.out.1.mono (by simp))
      exact bchain (bchain (bchain (bchain (bchain (bchain (bchain (bchain (bchain (bchain (bchain (bchain h1 HF.out.1) h2) HB3.out) HB4.out) HB5.out) HB6.out) HB7.out) HB8.out) HB9.out) HB10.out) HB11.out) HB12.out
end Go.Proofs.YtkjkckdjenjgdaaDoor
