/- prolixlaw16: v, a, only; prolixref03.Same on two atoms. -/
import Derived.Test.YtkjkckdjenjgdaaDoorText
namespace Go.Proofs.YtkjkckdjenjgdaaDoor
open Go Go.RowKit

theorem Tm.kind_mk (k n : Int) (s : ByteArray) (l : List Tm) : (Tm.mk k n s l).kind = k := rfl
theorem Tm.n_mk (k n : Int) (s : ByteArray) (l : List Tm) : (Tm.mk k n s l).n = n := rfl
theorem Tm.s_mk (k n : Int) (s : ByteArray) (l : List Tm) : (Tm.mk k n s l).s = s := rfl
theorem Tm.args_mk (k n : Int) (s : ByteArray) (l : List Tm) : (Tm.mk k n s l).args = l := rfl
theorem lawv_any (n : Int) (w : World) :
    Calls Tryd.prog 16 #[.int .i64 n] w fun e w' => e = .returned (tmVal (varT n) none 0) ∧ Below w.heap.size w w' := by
  go_enter Tryd.func16, Tryd.ntmps16
  go_wp2
  refine bodyPost_ret (v := tmVal (varT n) none 0) (by simp [results, Tryd.results16, go_sem, tmVal, varT, Tm.kind, Tm.n, Tm.s, Tm.args]) rfl ⟨rfl, ?_⟩
  exact (Below.refl _ _).alloc (Nat.le_refl _) _
theorem lawa_any (s : ByteArray) (w : World) :
    Calls Tryd.prog 15 #[.string s] w fun e w' => e = .returned (tmVal (atomT s) none 0) ∧ Below w.heap.size w w' := by
  go_enter Tryd.func15, Tryd.ntmps15
  go_wp2
  refine bodyPost_ret (v := tmVal (atomT s) none 0) (by simp [results, Tryd.results15, go_sem, tmVal, atomT, Tm.kind, Tm.n, Tm.s, Tm.args]) rfl ⟨rfl, ?_⟩
  exact (Below.refl _ _).alloc (Nat.le_refl _) _
set_option maxHeartbeats 2000000 in
/-- The one term of an argument's answer. -/
theorem only_is (arg : Int) (t : Tm) (w : World) (I : Nat → Prop) (v : Value) (h : DidV w I (didIs arg t) v) :
    Calls Tryd.prog 17 #[v, .int .i64 0, .int .i64 arg] w fun e w' => Ret (fun v w' => ∃ a c, v = .tuple #[tmVal t a c, .bool true] ∧ SlC w' I t.args a c ∧ Below w.heap.size w w') e w' := by
  obtain ⟨a1, c1, a2, c2, a3, c3, rfl, h1, h2, _⟩ := h
  obtain ⟨b1, o1, rfl, _, hx⟩ := h1.2 (by simp [didIs])
  have x0 := hx 0 arg rfl
  obtain ⟨b2, o2, rfl, hts⟩ := h2.2 (by simp [didIs])
  simp only [didIs] at hts h2
  obtain ⟨ax, px, y0, y1, y2, y3, hsx⟩ := hts.cells 0 (by simp)
  simp only [List.getElem_cons_zero, Nat.zero_mul, Nat.add_zero] at y0 y1 y2 y3 hsx x0
  have hl0 := World.block_lt_of_cell? w _ x0
  have hl1 := World.block_lt_of_cell? w _ y0
  simp only at hl0 hl1
  simp only [didVal, didIs, noT, Tm.kind_mk, Tm.n_mk, Tm.s_mk, Tm.args_mk, List.length_cons, List.length_nil, Nat.zero_add]
  have H := Lib.hid (And.intro hsx (And.intro h1 (And.intro h2 hts)))
  clear hsx h1 h2 hts hx
  obtain ⟨tk, htk⟩ : ∃ tk, tk = t.kind := ⟨_, rfl⟩
  go_enter Tryd.func17, Tryd.ntmps17
  go_wp2_with fail
  refine bodyPost_ret (v := .tuple #[tmVal t ax px, .bool true]) (by simp only [results, Tryd.results17, tmVal]; go_simp) rfl ?_
  have hfin : Fr (fun _ => False) w ((w.alloc (.cells #[.bool true, .slice (some ⟨b1, o1, none⟩) 1 c1, .slice (some ⟨b2, o2, none⟩) 1 c2, .int .i64 0, .int .i64 0, .string ⟨#[]⟩, .slice a3 0 c3] 35)).alloc (.cells #[.int .i64 t.kind, .int .i64 t.n, .string t.s, .slice ax t.args.length px] 28)) := (Fr.alloc _ _ _).trans (Fr.alloc _ _ _)
  exact ⟨_, rfl, ax, px, rfl, H.out.1.fr hfin fun b hb e => e, hfin.below (Nat.le_refl _) fun k hk => hk.elim⟩
set_option maxRecDepth 100000 in
/-- Two atoms are the same just if their names are. -/
theorem sameRef_atoms (s t : ByteArray) (a1 a2 : Option Addr) (c1 c2 : Nat) (w : World) :
    Calls Tryd.prog 19 #[tmVal (atomT s) a1 c1, tmVal (atomT t) a2 c2] w fun e w' => e = .returned (.bool (s.toList == t.toList)) ∧ Below w.heap.size w w' := by
  simp only [tmVal, atomT, Tm.kind, Tm.n, Tm.s, Tm.args, List.length_nil]
  have hal : Below w.heap.size w ((w.alloc (.cells #[.int .i64 3, .int .i64 0, .string s, .slice a1 0 c1] 28)).alloc (.cells #[.int .i64 3, .int .i64 0, .string t, .slice a2 0 c2] 28)) := ((Below.refl _ w).alloc (Nat.le_refl _) _).alloc (by simp) _
  rcases Bool.eq_false_or_eq_true (s.toList == t.toList) with hst | hst
  · have hst' : s.toList = t.toList := by simpa using hst
    rw [hst]
    go_enter Tryd.func19, Tryd.ntmps19
    go_wp2_with fail
    go_loopg [37] 0 (fun k v wr => k = 0 ∧ v = .int .i64 0 ∧ wr = (w.alloc (.cells #[.int .i64 3, .int .i64 0, .string s, .slice a1 0 c1] 28)).alloc (.cells #[.int .i64 3, .int .i64 0, .string t, .slice a2 0 c2] 28))
    case atStart => exact ⟨rfl, rfl, rfl⟩
    case round =>
      obtain ⟨rfl, rfl, rfl⟩ := hrel
      go_wp2_with fail
      go_ret
      exact ⟨rfl, hal⟩
  · have hst' : ¬ s.toList = t.toList := by simpa using hst
    rw [hst]
    go_enter Tryd.func19, Tryd.ntmps19
    go_wp2_with fail
    go_ret
    exact ⟨rfl, hal⟩
end Go.Proofs.YtkjkckdjenjgdaaDoor
