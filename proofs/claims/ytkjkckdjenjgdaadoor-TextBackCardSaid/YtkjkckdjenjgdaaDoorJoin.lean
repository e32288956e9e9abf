/- prolixlaw16.TextJoins$1: two atoms put together. -/
import Derived.Deep.DrawnRows
import Derived.Test.YtkjkckdjenjgdaaDoorDid
import Derived.Test.YtkjkckdjenjgdaaDoorConcat
namespace Go.Proofs.YtkjkckdjenjgdaaDoor
open Go Go.RowKit

theorem check_leaf {t : Tm} (h0 : t.args = []) (h : mayB t = true) : checkE t = 0 ∧ t.size ≤ 1000000000 := by
  refine ⟨?_, by rw [Tm.size_eq, h0]; simp [Tm.sizes]⟩
  unfold checkE measure
  rw [Tm.flat_eq, h0]
  simp [Tm.flats, measStep, h]
theorem may_atom (s : ByteArray) (h : s.size ≤ 1000) : mayB (atomT s) = true := by simp [mayB, atomT, Tm.kind_mk, Tm.n_mk, Tm.s_mk, Tm.args_mk, h]
theorem may_var (n : Int) (h : 0 ≤ n) : mayB (varT n) = true := by
  have : (⟨#[]⟩ : ByteArray).toList.isEmpty = true := by rw [ByteArray.toList_eq]; rfl
  simp [mayB, varT, Tm.kind_mk, Tm.n_mk, Tm.s_mk, Tm.args_mk, h, this]
/-- 'atom_concat' of two atoms and a variable that lie in a block. -/
theorem do_join (s t : ByteArray) (a1 a2 a3 : Option Addr) (c1 c2 c3 B : Nat) (Y : World) (hs : s.size + t.size ≤ 1000)
    (h : Y.heap[B]? = some (.cells #[.int .i64 3, .int .i64 0, .string s, .slice a1 0 c1, .int .i64 3, .int .i64 0, .string t, .slice a2 0 c2, .int .i64 1, .int .i64 0, .string ⟨#[]⟩, .slice a3 0 c3] 28 (0, 0))) :
    Calls Tryd.prog 10 #[.string ⟨#[97, 116, 111, 109, 95, 99, 111, 110, 99, 97, 116]⟩, .slice (some ⟨B, 0, none⟩) 3 3] Y fun e w' => Ret (fun v w' => ∃ dv, v = .tuple #[dv, .int .i64 0] ∧ DidV w' (fun b => Y.heap.size ≤ b) (didIs 2 (atomT (s ++ t))) dv ∧ Below Y.heap.size Y w') e w' := by
  have hT : TmsC Y (fun _ => True) [atomT s, atomT t, varT 0] B 0 := by
    have hnil : ∀ (a : Option Addr) (c : Nat), SlC Y (fun _ => True) [] a c := fun a c => ⟨Nat.zero_le _, fun h => by simp at h⟩
    simp only [TmsC, and_true]
    exact ⟨TmC.iff.2 ⟨trivial, cell_of_block h 0 (by simp), cell_of_block h 1 (by simp), cell_of_block h 2 (by simp), a1, c1, cell_of_block h 3 (by simp), hnil _ _⟩,
      TmC.iff.2 ⟨trivial, cell_of_block h 4 (by simp), cell_of_block h 5 (by simp), cell_of_block h 6 (by simp), a2, c2, cell_of_block h 7 (by simp), hnil _ _⟩,
      TmC.iff.2 ⟨trivial, cell_of_block h 8 (by simp), cell_of_block h 9 (by simp), cell_of_block h 10 (by simp), a3, c3, cell_of_block h 11 (by simp), hnil _ _⟩⟩
  show Calls Tryd.prog 10 #[.string nmConcat, .slice (some ⟨B, 0, none⟩) 3 3] Y _
  refine do_concat _ B 0 3 Y _ _ rfl hT (by simp) ?_ fun w' hw' => concat_atoms s t B 0 3 w' _ hs hw'
  intro x hx
  simp only [List.mem_cons, List.not_mem_nil, or_false] at hx
  rcases hx with rfl | rfl | rfl
  · exact check_leaf rfl (may_atom _ (by omega))
  · exact check_leaf rfl (may_atom _ (by omega))
  · exact check_leaf rfl (may_var _ (by decide))


attribute [local go_sem ↓] Go.wp_at_zero Go.wp_at_succ
set_option maxHeartbeats 4000000 in
set_option maxRecDepth 100000 in
theorem join_atoms (s t : ByteArray) (a1 a2 : Option Addr) (c1 c2 : Nat) (w : World) (hs : s.size + t.size ≤ 1000) :
    Calls Tryd.prog 20 #[tmVal (atomT s) a1 c1, tmVal (atomT t) a2 c2] w fun e w' => Ret (fun v w' => ∃ a c, v = tmVal (atomT (s ++ t)) a c ∧ Below w.heap.size w w') e w' := by
  simp only [tmVal, atomT, Tm.kind_mk, Tm.n_mk, Tm.s_mk, Tm.args_mk, List.length_nil]
  go_enter Tryd.func20, Tryd.ntmps20
  go_upto_region 1 with (fail)
  obtain ⟨W0, hW0⟩ : ∃ W0, W0 = ((w.alloc (.cells #[.int .i64 3, .int .i64 0, .string s, .slice a1 0 c1] 28)).alloc (.cells #[.int .i64 3, .int .i64 0, .string t, .slice a2 0 c2] 28)).alloc (.cells #[.int .i64 0, .int .i64 0, .string ⟨#[]⟩, .slice none 0 0] 28) := ⟨_, rfl⟩
  rw [← hW0]
  obtain ⟨A, hA⟩ : ∃ A, A = w.heap.size := ⟨_, rfl⟩
  rw [← hA]
  have hsz0 : W0.heap.size = A + 3 := by rw [hW0, hA]; simp
  have hx : W0.heap[A]? = some (.cells #[.int .i64 3, .int .i64 0, .string s, .slice a1 0 c1] 28 (0, 0)) := by subst hA; rw [hW0]; ((try rw [drew_heap]); (repeat (first | assumption | exact heap_new' (by first | omega | (simp only [World.size_alloc, World.size_setCell, World.size_drew]; done) | (simp only [World.size_alloc, World.size_setCell, World.size_drew]; omega)) | refine heap_old' (by first | omega | (simp only [World.size_alloc, World.size_setCell, World.size_drew]; done) | (simp only [World.size_alloc, World.size_setCell, World.size_drew]; omega)) ?_)))
  have hy : W0.heap[A + 1]? = some (.cells #[.int .i64 3, .int .i64 0, .string t, .slice a2 0 c2] 28 (0, 0)) := by subst hA; rw [hW0]; ((try rw [drew_heap]); (repeat (first | assumption | exact heap_new' (by first | omega | (simp only [World.size_alloc, World.size_setCell, World.size_drew]; done) | (simp only [World.size_alloc, World.size_setCell, World.size_drew]; omega)) | refine heap_old' (by first | omega | (simp only [World.size_alloc, World.size_setCell, World.size_drew]; done) | (simp only [World.size_alloc, World.size_setCell, World.size_drew]; omega)) ?_)))
  have hr : W0.heap[A + 2]? = some (.cells #[.int .i64 0, .int .i64 0, .string ⟨#[]⟩, .slice none 0 0] 28 (0, 0)) := by subst hA; rw [hW0]; ((try rw [drew_heap]); (repeat (first | assumption | exact heap_new' (by first | omega | (simp only [World.size_alloc, World.size_setCell, World.size_drew]; done) | (simp only [World.size_alloc, World.size_setCell, World.size_drew]; omega)) | refine heap_old' (by first | omega | (simp only [World.size_alloc, World.size_setCell, World.size_drew]; done) | (simp only [World.size_alloc, World.size_setCell, World.size_drew]; omega)) ?_)))
  have hbel : Below A w W0 := by subst hA; rw [hW0]; exact (((Below.refl _ w).alloc (Nat.le_refl _) _).alloc (by simp) _).alloc (by simp; omega) _
  have x0 := cell_of_block hx 0 (by simp)
  simp only [List.getElem_toArray, List.getElem_cons_zero, List.getElem_cons_succ] at x0
  have x1 := cell_of_block hx 1 (by simp)
  simp only [List.getElem_toArray, List.getElem_cons_zero, List.getElem_cons_succ] at x1
  have x2 := cell_of_block hx 2 (by simp)
  simp only [List.getElem_toArray, List.getElem_cons_zero, List.getElem_cons_succ] at x2
  have x3 := cell_of_block hx 3 (by simp)
  simp only [List.getElem_toArray, List.getElem_cons_zero, List.getElem_cons_succ] at x3
  have y0 := cell_of_block hy 0 (by simp)
  simp only [List.getElem_toArray, List.getElem_cons_zero, List.getElem_cons_succ] at y0
  have y1 := cell_of_block hy 1 (by simp)
  simp only [List.getElem_toArray, List.getElem_cons_zero, List.getElem_cons_succ] at y1
  have y2 := cell_of_block hy 2 (by simp)
  simp only [List.getElem_toArray, List.getElem_cons_zero, List.getElem_cons_succ] at y2
  have y3 := cell_of_block hy 3 (by simp)
  simp only [List.getElem_toArray, List.getElem_cons_zero, List.getElem_cons_succ] at y3
  have r0 := cell_of_block hr 0 (by simp)
  simp only [List.getElem_toArray, List.getElem_cons_zero, List.getElem_cons_succ] at r0
  have f0 := frozen_of_block hr 0
  have r1 := cell_of_block hr 1 (by simp)
  simp only [List.getElem_toArray, List.getElem_cons_zero, List.getElem_cons_succ] at r1
  have f1 := frozen_of_block hr 1
  have r2 := cell_of_block hr 2 (by simp)
  simp only [List.getElem_toArray, List.getElem_cons_zero, List.getElem_cons_succ] at r2
  have f2 := frozen_of_block hr 2
  have r3 := cell_of_block hr 3 (by simp)
  simp only [List.getElem_toArray, List.getElem_cons_zero, List.getElem_cons_succ] at r3
  have f3 := frozen_of_block hr 3
  have H0 := Lib.hid (And.intro hx (And.intro hy (And.intro hr (And.intro hbel (And.intro hA hW0)))))
  have HSZ := Lib.hid hsz0
  have HR := Lib.hid (And.intro r0 (And.intro r1 (And.intro r2 (And.intro r3 (And.intro f0 (And.intro f1 (And.intro f2 f3)))))))
  clear hx hy hr hbel hA hW0 r0 r1 r2 r3 f0 f1 f2 f3 
  have hsz : A + 3 ≤ W0.heap.size := Nat.le_of_eq hsz0.symm
  clear hsz0
  go_cut [5, 6] (fun s5 s6 wc => DidRel (A + 3) W0 (didIs 2 (atomT (s ++ t))) s5 s6 wc)
  case first =>
    go_region_held3 (fun w' => (∀ a : Addr, a.block < A + 3 → w'.cell? a = W0.cell? a) ∧ Hid (Below (A + 3) W0 w' ∧ A + 3 ≤ w'.heap.size))
      (first | with_reducible exact kp_start HSZ.out | ((with_reducible apply kp_put7); all_goals (first | assumption | omega)) | ((with_reducible apply kp_re); all_goals (first | assumption | omega)) | ((with_reducible apply kp_keep); all_goals assumption) | ((with_reducible refine kp_alloc ?_); assumption) | ((with_reducible refine kp_ad ?_); assumption))
      (first | (go_at_call 16; refine Calls.mono (lawv_any 0 _) ?_; rintro e w1 ⟨rfl, hb1⟩; have hs1 := hb1.size; try simp only [World.size_alloc, World.size_drew] at hs1; (first | (have kv : w1.heap[W0.heap.size]? = some (.cells #[.bool false, .slice none 0 0, .slice none 0 0, .int .i64 0, .int .i64 0, .string ⟨#[]⟩, .slice none 0 0] 35 (0, 0)) := (hb1.block _ (by simp only [World.size_alloc, World.size_drew]; omega)).trans (by ((try rw [drew_heap]); (first | assumption | exact heap_new' (by first | omega | (simp only [World.size_alloc, World.size_setCell, World.size_drew]; done) | (simp only [World.size_alloc, World.size_setCell, World.size_drew]; omega)) | (refine heap_old' (by first | omega | (simp only [World.size_alloc, World.size_setCell, World.size_drew]; done) | (simp only [World.size_alloc, World.size_setCell, World.size_drew]; omega)) ?_; (try rw [drew_heap]); (first | assumption | exact heap_new' (by first | omega | (simp only [World.size_alloc, World.size_setCell, World.size_drew]; done) | (simp only [World.size_alloc, World.size_setCell, World.size_drew]; omega)) | (refine heap_old' (by first | omega | (simp only [World.size_alloc, World.size_setCell, World.size_drew]; done) | (simp only [World.size_alloc, World.size_setCell, World.size_drew]; omega)) ?_; (try rw [drew_heap]); (first | assumption | exact heap_new' (by first | omega | (simp only [World.size_alloc, World.size_setCell, World.size_drew]; done) | (simp only [World.size_alloc, World.size_setCell, World.size_drew]; omega)) | (refine heap_old' (by first | omega | (simp only [World.size_alloc, World.size_setCell, World.size_drew]; done) | (simp only [World.size_alloc, World.size_setCell, World.size_drew]; omega)) ?_; (try rw [drew_heap]); (first | assumption | exact heap_new' (by first | omega | (simp only [World.size_alloc, World.size_setCell, World.size_drew]; done) | (simp only [World.size_alloc, World.size_setCell, World.size_drew]; omega)) | (refine heap_old' (by first | omega | (simp only [World.size_alloc, World.size_setCell, World.size_drew]; done) | (simp only [World.size_alloc, World.size_setCell, World.size_drew]; omega)) ?_; (try rw [drew_heap]); (first | assumption | exact heap_new' (by first | omega | (simp only [World.size_alloc, World.size_setCell, World.size_drew]; done) | (simp only [World.size_alloc, World.size_setCell, World.size_drew]; omega)) | (refine heap_old' (by first | omega | (simp only [World.size_alloc, World.size_setCell, World.size_drew]; done) | (simp only [World.size_alloc, World.size_setCell, World.size_drew]; omega)) ?_; (try rw [drew_heap]); assumption))))))))))))) | skip); dsimp only [tmVal, varT, Tm.kind_mk, Tm.n_mk, Tm.s_mk, Tm.args_mk, List.length_nil]) | (go_at_call 10; refine Calls.mono (do_join s t a1 a2 none c1 c2 0 _ _ hs (by ((try rw [drew_heap]); (first | assumption | exact heap_new' (by first | omega | (simp only [World.size_alloc, World.size_setCell, World.size_drew]; done) | (simp only [World.size_alloc, World.size_setCell, World.size_drew]; omega)) | (refine heap_old' (by first | omega | (simp only [World.size_alloc, World.size_setCell, World.size_drew]; done) | (simp only [World.size_alloc, World.size_setCell, World.size_drew]; omega)) ?_; (try rw [drew_heap]); (first | assumption | exact heap_new' (by first | omega | (simp only [World.size_alloc, World.size_setCell, World.size_drew]; done) | (simp only [World.size_alloc, World.size_setCell, World.size_drew]; omega)) | (refine heap_old' (by first | omega | (simp only [World.size_alloc, World.size_setCell, World.size_drew]; done) | (simp only [World.size_alloc, World.size_setCell, World.size_drew]; omega)) ?_; (try rw [drew_heap]); (first | assumption | exact heap_new' (by first | omega | (simp only [World.size_alloc, World.size_setCell, World.size_drew]; done) | (simp only [World.size_alloc, World.size_setCell, World.size_drew]; omega)) | (refine heap_old' (by first | omega | (simp only [World.size_alloc, World.size_setCell, World.size_drew]; done) | (simp only [World.size_alloc, World.size_setCell, World.size_drew]; omega)) ?_; (try rw [drew_heap]); (first | assumption | exact heap_new' (by first | omega | (simp only [World.size_alloc, World.size_setCell, World.size_drew]; done) | (simp only [World.size_alloc, World.size_setCell, World.size_drew]; omega)) | (refine heap_old' (by first | omega | (simp only [World.size_alloc, World.size_setCell, World.size_drew]; done) | (simp only [World.size_alloc, World.size_setCell, World.size_drew]; omega)) ?_; (try rw [drew_heap]); (first | assumption | exact heap_new' (by first | omega | (simp only [World.size_alloc, World.size_setCell, World.size_drew]; done) | (simp only [World.size_alloc, World.size_setCell, World.size_drew]; omega)) | (refine heap_old' (by first | omega | (simp only [World.size_alloc, World.size_setCell, World.size_drew]; done) | (simp only [World.size_alloc, World.size_setCell, World.size_drew]; omega)) ?_; (try rw [drew_heap]); assumption))))))))))))) ?_; rintro e w2 ⟨_, rfl, _, rfl, ⟨p1, q1, p2, q2, p3, q3, rfl, h1, h2, h3⟩, hb2⟩; have HD2 := Lib.hid (And.intro h1 (And.intro h2 h3)); clear h1 h2 h3; have hs2 := hb2.size; try simp only [World.size_alloc, World.size_drew] at hs2; (first | (have kd : w2.heap[W0.heap.size]? = some (.cells #[.bool false, .slice none 0 0, .slice none 0 0, .int .i64 0, .int .i64 0, .string ⟨#[]⟩, .slice none 0 0] 35 (0, 0)) := (hb2.block _ (by simp only [World.size_alloc, World.size_drew]; omega)).trans (by ((try rw [drew_heap]); (first | assumption | exact heap_new' (by first | omega | (simp only [World.size_alloc, World.size_setCell, World.size_drew]; done) | (simp only [World.size_alloc, World.size_setCell, World.size_drew]; omega)) | (refine heap_old' (by first | omega | (simp only [World.size_alloc, World.size_setCell, World.size_drew]; done) | (simp only [World.size_alloc, World.size_setCell, World.size_drew]; omega)) ?_; (try rw [drew_heap]); (first | assumption | exact heap_new' (by first | omega | (simp only [World.size_alloc, World.size_setCell, World.size_drew]; done) | (simp only [World.size_alloc, World.size_setCell, World.size_drew]; omega)) | (refine heap_old' (by first | omega | (simp only [World.size_alloc, World.size_setCell, World.size_drew]; done) | (simp only [World.size_alloc, World.size_setCell, World.size_drew]; omega)) ?_; (try rw [drew_heap]); (first | assumption | exact heap_new' (by first | omega | (simp only [World.size_alloc, World.size_setCell, World.size_drew]; done) | (simp only [World.size_alloc, World.size_setCell, World.size_drew]; omega)) | (refine heap_old' (by first | omega | (simp only [World.size_alloc, World.size_setCell, World.size_drew]; done) | (simp only [World.size_alloc, World.size_setCell, World.size_drew]; omega)) ?_; (try rw [drew_heap]); (first | assumption | exact heap_new' (by first | omega | (simp only [World.size_alloc, World.size_setCell, World.size_drew]; done) | (simp only [World.size_alloc, World.size_setCell, World.size_drew]; omega)) | (refine heap_old' (by first | omega | (simp only [World.size_alloc, World.size_setCell, World.size_drew]; done) | (simp only [World.size_alloc, World.size_setCell, World.size_drew]; omega)) ?_; (try rw [drew_heap]); (first | assumption | exact heap_new' (by first | omega | (simp only [World.size_alloc, World.size_setCell, World.size_drew]; done) | (simp only [World.size_alloc, World.size_setCell, World.size_drew]; omega)) | (refine heap_old' (by first | omega | (simp only [World.size_alloc, World.size_setCell, World.size_drew]; done) | (simp only [World.size_alloc, World.size_setCell, World.size_drew]; omega)) ?_; (try rw [drew_heap]); assumption)))))))))))); have kd' := Lib.hid kd; obtain ⟨⟨y0, y1, y2, y3, y4, y5, y6⟩, ⟨z0, z1, z2, z3, z4, z5, z6⟩⟩ := zd_facts kd; clear kd kv) | (have kd : w2.heap[w1.heap.size]? = some (.cells #[.bool false, .slice none 0 0, .slice none 0 0, .int .i64 0, .int .i64 0, .string ⟨#[]⟩, .slice none 0 0] 35 (0, 0)) := (hb2.block _ (by simp only [World.size_alloc, World.size_drew]; omega)).trans (by ((try rw [drew_heap]); (first | assumption | exact heap_new' (by first | omega | (simp only [World.size_alloc, World.size_setCell, World.size_drew]; done) | (simp only [World.size_alloc, World.size_setCell, World.size_drew]; omega)) | (refine heap_old' (by first | omega | (simp only [World.size_alloc, World.size_setCell, World.size_drew]; done) | (simp only [World.size_alloc, World.size_setCell, World.size_drew]; omega)) ?_; (try rw [drew_heap]); (first | assumption | exact heap_new' (by first | omega | (simp only [World.size_alloc, World.size_setCell, World.size_drew]; done) | (simp only [World.size_alloc, World.size_setCell, World.size_drew]; omega)) | (refine heap_old' (by first | omega | (simp only [World.size_alloc, World.size_setCell, World.size_drew]; done) | (simp only [World.size_alloc, World.size_setCell, World.size_drew]; omega)) ?_; (try rw [drew_heap]); (first | assumption | exact heap_new' (by first | omega | (simp only [World.size_alloc, World.size_setCell, World.size_drew]; done) | (simp only [World.size_alloc, World.size_setCell, World.size_drew]; omega)) | (refine heap_old' (by first | omega | (simp only [World.size_alloc, World.size_setCell, World.size_drew]; done) | (simp only [World.size_alloc, World.size_setCell, World.size_drew]; omega)) ?_; (try rw [drew_heap]); (first | assumption | exact heap_new' (by first | omega | (simp only [World.size_alloc, World.size_setCell, World.size_drew]; done) | (simp only [World.size_alloc, World.size_setCell, World.size_drew]; omega)) | (refine heap_old' (by first | omega | (simp only [World.size_alloc, World.size_setCell, World.size_drew]; done) | (simp only [World.size_alloc, World.size_setCell, World.size_drew]; omega)) ?_; (try rw [drew_heap]); (first | assumption | exact heap_new' (by first | omega | (simp only [World.size_alloc, World.size_setCell, World.size_drew]; done) | (simp only [World.size_alloc, World.size_setCell, World.size_drew]; omega)) | (refine heap_old' (by first | omega | (simp only [World.size_alloc, World.size_setCell, World.size_drew]; done) | (simp only [World.size_alloc, World.size_setCell, World.size_drew]; omega)) ?_; (try rw [drew_heap]); assumption)))))))))))); have kd' := Lib.hid kd; obtain ⟨⟨y0, y1, y2, y3, y4, y5, y6⟩, ⟨z0, z1, z2, z3, z4, z5, z6⟩⟩ := zd_facts kd; clear kd) | (have kd : w2.heap[w1.heap.size + 1]? = some (.cells #[.bool false, .slice none 0 0, .slice none 0 0, .int .i64 0, .int .i64 0, .string ⟨#[]⟩, .slice none 0 0] 35 (0, 0)) := (hb2.block _ (by simp only [World.size_alloc, World.size_drew]; omega)).trans (by ((try rw [drew_heap]); (first | assumption | exact heap_new' (by first | omega | (simp only [World.size_alloc, World.size_setCell, World.size_drew]; done) | (simp only [World.size_alloc, World.size_setCell, World.size_drew]; omega)) | (refine heap_old' (by first | omega | (simp only [World.size_alloc, World.size_setCell, World.size_drew]; done) | (simp only [World.size_alloc, World.size_setCell, World.size_drew]; omega)) ?_; (try rw [drew_heap]); (first | assumption | exact heap_new' (by first | omega | (simp only [World.size_alloc, World.size_setCell, World.size_drew]; done) | (simp only [World.size_alloc, World.size_setCell, World.size_drew]; omega)) | (refine heap_old' (by first | omega | (simp only [World.size_alloc, World.size_setCell, World.size_drew]; done) | (simp only [World.size_alloc, World.size_setCell, World.size_drew]; omega)) ?_; (try rw [drew_heap]); (first | assumption | exact heap_new' (by first | omega | (simp only [World.size_alloc, World.size_setCell, World.size_drew]; done) | (simp only [World.size_alloc, World.size_setCell, World.size_drew]; omega)) | (refine heap_old' (by first | omega | (simp only [World.size_alloc, World.size_setCell, World.size_drew]; done) | (simp only [World.size_alloc, World.size_setCell, World.size_drew]; omega)) ?_; (try rw [drew_heap]); (first | assumption | exact heap_new' (by first | omega | (simp only [World.size_alloc, World.size_setCell, World.size_drew]; done) | (simp only [World.size_alloc, World.size_setCell, World.size_drew]; omega)) | (refine heap_old' (by first | omega | (simp only [World.size_alloc, World.size_setCell, World.size_drew]; done) | (simp only [World.size_alloc, World.size_setCell, World.size_drew]; omega)) ?_; (try rw [drew_heap]); (first | assumption | exact heap_new' (by first | omega | (simp only [World.size_alloc, World.size_setCell, World.size_drew]; done) | (simp only [World.size_alloc, World.size_setCell, World.size_drew]; omega)) | (refine heap_old' (by first | omega | (simp only [World.size_alloc, World.size_setCell, World.size_drew]; done) | (simp only [World.size_alloc, World.size_setCell, World.size_drew]; omega)) ?_; (try rw [drew_heap]); assumption)))))))))))); have kd' := Lib.hid kd; obtain ⟨⟨y0, y1, y2, y3, y4, y5, y6⟩, ⟨z0, z1, z2, z3, z4, z5, z6⟩⟩ := zd_facts kd; clear kd) | skip); dsimp only [didVal, didIs, noT, atomT, Tm.kind_mk, Tm.n_mk, Tm.s_mk, Tm.args_mk, List.length_nil, List.length_cons]))
    all_goals
      have HK := Lib.hid (show Hid _ from (by assumption : _ ∧ _).2)
      go_wp2_with fail
      go_meet
      case rel =>
        have sz0 := HSZ.out
        have hk := HK.out.out.2
        refine ⟨rfl, ⟨_, p1, q1, p2, q2, p3, q3, rfl, ?_, ?_, ?_⟩, HK.out.out.1⟩
        · simp only [World.size_alloc, World.size_setCell]; omega
        · omega
        · first
            | (have hC := DidC.put' (d := didIs 2 (atomT (s ++ t))) (N := A + 3) kd'.out rfl HD2.out (by simp only [World.size_alloc]; omega) (by simp only [World.size_alloc]; omega); exact hC)
            | (have hC := DidC.new' (d := didIs 2 (atomT (s ++ t))) (N := A + 3) (T := 35) HD2.out (by simp only [World.size_alloc]; omega); exact hC)
  case rest =>
    obtain ⟨rfl, ⟨p, b1, d1, b2, d2, b3, d3, rfl, hpl, hpN, hC⟩, hbe⟩ := hcut
    have k0 := hC.k0
    have k1 := hC.k1
    have k2 := hC.k2
    have k3 := hC.k3
    have k4 := hC.k4
    have k5 := hC.k5
    have k6 := hC.k6
    simp only [didIs, noT, atomT, Tm.kind_mk, Tm.n_mk, Tm.s_mk, Tm.args_mk, List.length_nil, List.length_cons, Nat.zero_add] at k0 k1 k2 k3 k4 k5 k6
    have HC := Lib.hid hC
    have HBE := Lib.hid hbe
    clear hC hbe x0 x1 x2 x3 y0 y1 y2 y3
    go_wp2_with fail
    refine (only_is 2 (atomT (s ++ t)) _ _ _ (DidC.val HC.out)).mono ?_
    rintro e w1 ⟨_, rfl, a, c, rfl, hsl, hb1⟩
    obtain ⟨hx, hy, hr, hbel, hA, hW0⟩ := H0.out
    have hr1 : w1.heap[A + 2]? = some (.cells #[.int .i64 0, .int .i64 0, .string ⟨#[]⟩, .slice none 0 0] 28 (0, 0)) := by
      rw [hb1.block _ (by omega), HBE.out.block _ (by omega)]
      exact hr
    have hs1 := hb1.size
    have hbe1 : Below A w w1 := hbel.trans ((HBE.out.mono (by omega)).trans (hb1.mono (by omega)))
    have HF := Lib.hid (And.intro hr1 (And.intro hA (And.intro hsl hbe1)))
    have r0 := cell_of_block hr1 0 (by simp)
    simp only [List.getElem_toArray, List.getElem_cons_zero, List.getElem_cons_succ] at r0
    have f0 := frozen_of_block hr1 0
    have r1 := cell_of_block hr1 1 (by simp)
    simp only [List.getElem_toArray, List.getElem_cons_zero, List.getElem_cons_succ] at r1
    have f1 := frozen_of_block hr1 1
    have r2 := cell_of_block hr1 2 (by simp)
    simp only [List.getElem_toArray, List.getElem_cons_zero, List.getElem_cons_succ] at r2
    have f2 := frozen_of_block hr1 2
    have r3 := cell_of_block hr1 3 (by simp)
    simp only [List.getElem_toArray, List.getElem_cons_zero, List.getElem_cons_succ] at r3
    have f3 := frozen_of_block hr1 3
    clear hx hy hr hbel hA hW0 hr1 hsl hb1 hbe1 k0 k1 k2 k3 k4 k5 k6 HSZ HR
    have hl1 : A + 2 < w1.heap.size := by omega
    dsimp only [Act.put, tmVal, atomT, Tm.kind, Tm.n, Tm.s, Tm.args, List.length_nil]
    go_wp2_with fail
    refine bodyPost_ret (v := tmVal (atomT (s ++ t)) a c) (by simp only [results, Tryd.results20, tmVal, atomT, Tm.kind_mk, Tm.n_mk, Tm.s_mk, Tm.args_mk, List.length_nil]; go_simp) rfl ?_
    obtain ⟨hr1, hA, hsl, hbe1⟩ := HF.out
    refine ⟨_, rfl, a, c, rfl, ?_⟩
    subst hA
    refine Below.alloc (Below.setCell (Below.setCell (Below.setCell (Below.setCell hbe1 ?_ _) ?_ _) ?_ _) ?_ _) (by simp only [World.size_setCell]; omega) _ <;> exact Nat.le_add_right _ 2
end Go.Proofs.YtkjkckdjenjgdaaDoor
