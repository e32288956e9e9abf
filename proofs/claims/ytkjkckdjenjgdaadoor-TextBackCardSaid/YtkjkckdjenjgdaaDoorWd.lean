/- The walks over term.measured and term.Check. -/
import Derived.Test.YtkjkckdjenjgdaaDoorWa
import Derived.Test.YtkjkckdjenjgdaaDoorWb
namespace Go.Proofs.YtkjkckdjenjgdaaDoor
open Go Go.RowKit

/-- What is found on a way: is a part bad; how many; how deep. -/
abbrev MeasS := Bool × Int × Int
def measStep (st : MeasS) (t : Tm) (d : Int) : MeasS := (st.1 || !mayB t, st.2.1 + 1, if st.2.2 < d then d else st.2.2)
def measV (b : Nat) : Visitor MeasS where
  step := measStep
  inv := fun k st M w => MeasAt w b st.1 st.2.1 st.2.2 ∧ (∀ x, M x ↔ x = b) ∧ 0 ≤ st.2.1 ∧ st.2.1 + k ≤ 4611686018427387904
  lt := fun _ _ _ w h x hx => by
    have := World.block_lt_of_cell? w _ h.1.c0
    rw [(h.2.1 x).1 hx]; exact this
  stab := fun _ _ M w w' h hb => by
    refine ⟨?_, h.2⟩
    obtain ⟨⟨c0, c1, c2, fz⟩, hM, _⟩ := h
    have e := hb b ((hM b).2 rfl)
    exact ⟨(World.cell?_of_block (w := w) e).trans c0, (World.cell?_of_block (w := w) e).trans c1, (World.cell?_of_block (w := w) e).trans c2, fun o => (World.frozen?_of_block (w := w) (a := ⟨b, o, none⟩) e).trans (fz o)⟩
theorem measV_ok (b : Nat) (lim : Int) : (measV b).ok 59 (.pointer (some ⟨b, 0, none⟩)) lim := by
  intro k st M w t a c d I hI hi hs h1 h2
  obtain ⟨hm, hM, h0, hb⟩ := hi
  refine (take_any t a c w b st.1 st.2.1 st.2.2 d (if st.2.2 < d then d else st.2.2) hm h0 (by omega) ?_).mono ?_
  · by_cases h : st.2.2 < d
    · exact .inl ⟨h, if_pos h⟩
    · exact .inr ⟨by omega, if_neg h⟩
  · rintro e w' ⟨rfl, h3, h4⟩
    refine ⟨rfl, M, ⟨h3, hM, by show 0 ≤ st.2.1 + 1; omega, by show st.2.1 + 1 + (k : Int) ≤ _; omega⟩, fun x hx => .inl hx, h4.mono fun x hx => (hM x).2 hx⟩
/-- What is found of a whole term. -/
def measure (t : Tm) : MeasS := (t.flat 1).foldl (fun st y => measStep st y.1 y.2) (false, 0, 0)
def checkE (t : Tm) : Int := if (measure t).1 = true then 2 else if 2000 < (measure t).2.2 then 4 else if 20000 < (measure t).2.1 then 3 else 0

theorem hcall_take (args : Array Value) (w : World) : (callFunc 59 args).run Tryd.prog w = .ok (.enter 59 args) w := by kernel_rfl

theorem measured_any (I : Nat → Prop) (t : Tm) (a : Option Addr) (c : Nat) (w : World) (ht : SlC w I t.args a c) (hl : t.size ≤ 1000000000) :
    Calls Tryd.prog 33 #[tmVal t a c] w fun e w' => e = .returned (.agg #[.bool (measure t).1, .int .i64 (measure t).2.1, .int .i64 (measure t).2.2]) ∧ Below w.heap.size w w' := by
  obtain ⟨ms, hms⟩ : ∃ ms, ms = measure t := ⟨_, rfl⟩
  rw [← hms]
  have HMS := Lib.hid hms
  clear hms
  simp only [tmVal]
  go_enter Tryd.func33, Tryd.ntmps33
  go_wp2_with fail
  obtain ⟨W, hW⟩ : ∃ W, W = (((w.alloc (Obj.cells #[Value.int .i64 t.kind, .int .i64 t.n, .string t.s, .slice a t.args.length c] 28)).alloc (Obj.cells #[Value.bool false, .int .i64 0, .int .i64 0] 65)).alloc (Obj.cells #[Value.bool false, .int .i64 0, .int .i64 0] 65)) := ⟨_, rfl⟩
  have hfr : ∀ M, Fr M w W := fun M => hW ▸ (((Fr.alloc M w _).trans (Fr.alloc M _ _)).trans (Fr.alloc M _ _))
  have hblk2 : W.heap[w.heap.size + 2]? = some (.cells #[Value.bool false, .int .i64 0, .int .i64 0] 65 (0, 0)) := by
    rw [hW]; have := heap_alloc_new ((w.alloc (Obj.cells #[Value.int .i64 t.kind, .int .i64 t.n, .string t.s, .slice a t.args.length c] 28)).alloc (Obj.cells #[Value.bool false, .int .i64 0, .int .i64 0] 65)) (Obj.cells #[Value.bool false, .int .i64 0, .int .i64 0] 65)
    rwa [World.size_alloc, World.size_alloc] at this
  have hblk1 : W.heap[w.heap.size + 1]? = some (.cells #[Value.bool false, .int .i64 0, .int .i64 0] 65 (0, 0)) := by
    rw [hW]; have := heap_alloc_new (w.alloc (Obj.cells #[Value.int .i64 t.kind, .int .i64 t.n, .string t.s, .slice a t.args.length c] 28)) (Obj.cells #[Value.bool false, .int .i64 0, .int .i64 0] 65)
    rw [World.size_alloc] at this
    rw [heap_alloc_old _ _ (by simp)]; exact this
  have hsz : W.heap.size = w.heap.size + 3 := by rw [hW]; simp
  rw [← hW]
  clear hW
  have hi : (measV (w.heap.size + 2)).inv t.size (false, 0, 0) (· = w.heap.size + 2) W :=
    ⟨⟨cell_of_block hblk2 0 (by decide), cell_of_block hblk2 1 (by decide), cell_of_block hblk2 2 (by decide), fun o => frozen_of_block hblk2 o⟩, fun _ => Iff.rfl, Int.le_refl _, by show (0 : Int) + t.size ≤ _; omega⟩
  have htw := (ht.there.fr (hfr (fun _ => False)) fun _ _ => id)
  refine (walk_any (measV (w.heap.size + 2)) (fun b => I b ∧ b < w.heap.size) (· = w.heap.size + 2) 59 _ (false, 0, 0) t a c W 1000000000000 hcall_take (measV_ok _ _) (fun b hb => by omega) (fun b hb => by omega) hi htw (by omega) (by omega)).mono ?_
  rintro e w1 ⟨rfl, M', hinv, hown, hfr1⟩
  obtain ⟨⟨c0, c1, c2, fz⟩, _, _⟩ := hinv
  have hb1 := hfr1.block (w.heap.size + 1) (by omega) (by omega)
  rw [hblk1] at hb1
  have r0 := cell_of_block hb1 0 (by decide)
  have r1 := cell_of_block hb1 1 (by decide)
  have r2 := cell_of_block hb1 2 (by decide)
  have z0 := frozen_of_block hb1 0
  have z1 := frozen_of_block hb1 1
  have z2 := frozen_of_block hb1 2
  have hms : Visitor.fold (measV (w.heap.size + 2)) (false, 0, 0) (t.flat 1) = ms := HMS.out.symm
  rw [hms] at c0 c1 c2
  have hbel : Below w.heap.size w w1 := (hfr (fun _ => False)).below (Nat.le_refl _) (fun _ h => h.elim) |>.trans (hfr1.below (by omega) (fun k hk => by omega))
  have HB := Lib.hid hbel
  have hs1 := hfr1.size
  have hz1 : w.heap.size + 1 < w1.heap.size := by omega
  clear hbel hfr1 hown fz hfr hblk1 hblk2 hi htw ht hb1 hms
  dsimp only [Act.put]
  go_wp2_with fail
  refine bodyPost_ret (v := .agg #[.bool ms.1, .int .i64 ms.2.1, .int .i64 ms.2.2]) (by simp only [results, Tryd.results33]; go_simp) rfl ⟨rfl, ?_⟩
  exact ((HB.out.setCell (by simp) _).setCell (by simp) _).setCell (by simp) _

theorem check_any (I : Nat → Prop) (t : Tm) (a : Option Addr) (c : Nat) (w : World) (ht : SlC w I t.args a c) (hl : t.size ≤ 1000000000) :
    Calls Tryd.prog 22 #[tmVal t a c] w fun e w' => e = .returned (.int .i64 (checkE t)) ∧ Below w.heap.size w w' := by
  have hE : checkE t = if (measure t).1 = true then 2 else if 2000 < (measure t).2.2 then 4 else if 20000 < (measure t).2.1 then 3 else 0 := rfl
  rw [hE]
  clear hE
  obtain ⟨ms, hms⟩ : ∃ ms, ms = measure t := ⟨_, rfl⟩
  rw [← hms]
  have HMS := Lib.hid hms
  clear hms
  obtain ⟨m1, m2, m3⟩ := ms
  simp only [tmVal]
  go_enter Tryd.func22, Tryd.ntmps22
  go_wp2_with fail
  refine (measured_any I t a c _ (ht.fr (Fr.alloc (fun _ => False) _ _) fun _ _ => id) hl).mono ?_
  rintro e w1 ⟨rfl, hb1⟩
  rw [← HMS.out]
  have hbel : Below w.heap.size w w1 := ((Below.refl _ _).alloc (Nat.le_refl _) _).trans (hb1.mono (by simp))
  have HB := Lib.hid hbel
  have hs1 := hb1.size
  clear hb1 hbel ht
  dsimp only [Act.put]
  go_wp2_with fail
  all_goals go_ret
  all_goals refine ⟨retI ?_, HB.out.alloc HB.out.size _⟩
  all_goals ((repeat' split) <;> simp_all <;> omega)
end Go.Proofs.YtkjkckdjenjgdaaDoor
