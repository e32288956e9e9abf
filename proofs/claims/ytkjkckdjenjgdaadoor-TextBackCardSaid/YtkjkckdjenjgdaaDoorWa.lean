/- The walks over package term that only read: may, take, walk, measured, Check. -/
import Derived.Test.YtkjkckdjenjgdaaDoorProg
import Derived.Test.YtkjkckdjenjgdaaDoorLib
import Derived.Deep.QuietTactic
import Derived.BigQuiet
import Derived.WalkLawsBesides
import Derived.WalkSpells
import Derived.StillTailTactics
import Derived.Deep.RegionLaw
namespace Go.Proofs.YtkjkckdjenjgdaaDoor
open Go Go.RowKit

/-- May a part be, but for its Args? -/
def mayB (t : Tm) : Bool :=
  (t.kind == 1 && (decide (0 ≤ t.n) && (t.s.toList.isEmpty && t.args.length == 0))) ||
  (t.kind == 2 && (t.s.toList.isEmpty && t.args.length == 0)) ||
  (t.kind == 3 && (t.n == 0 && (decide (t.s.size ≤ 1000) && t.args.length == 0))) ||
  (t.kind == 4 && (t.n == 0 && (decide (t.s.size ≤ 1000) && (decide (1 ≤ t.args.length) && decide (t.args.length ≤ 255)))))

set_option maxHeartbeats 1000000 in
theorem may_any (t : Tm) (a : Option Addr) (c : Nat) (w : World) :
    Calls Tryd.prog 69 #[tmVal t a c] w fun e w' => e = .returned (.bool (mayB t)) ∧ Below w.heap.size w w' := by
  cases t with | mk k n s ts => ?_
  simp only [tmVal, Tm.kind, Tm.n, Tm.s, Tm.args]
  generalize hl : ts.length = l
  have HE : Hid (mayB (.mk k n s ts) = ((k == 1 && (decide (0 ≤ n) && (s.toList.isEmpty && l == 0))) ||
  (k == 2 && (s.toList.isEmpty && l == 0)) ||
  (k == 3 && (n == 0 && (decide (s.size ≤ 1000) && l == 0))) ||
  (k == 4 && (n == 0 && (decide (s.size ≤ 1000) && (decide (1 ≤ l) && decide (l ≤ 255))))))) := by subst hl; rfl
  clear hl
  rw [HE.out]
  clear HE
  go_enter Tryd.func69, Tryd.ntmps69
  go_wp2
  all_goals (go_ret; refine ⟨retB ?_, (Below.refl _ _).alloc (Nat.le_refl _) _⟩)
  all_goals (rw [Bool.eq_iff_iff]; simp_all <;> omega)

/-- What is found on a way, in its block. -/
structure MeasAt (w : World) (b : Nat) (bad : Bool) (size deep : Int) : Prop where
  c0 : w.cell? ⟨b, 0, none⟩ = some (.bool bad)
  c1 : w.cell? ⟨b, 1, none⟩ = some (.int .i64 size)
  c2 : w.cell? ⟨b, 2, none⟩ = some (.int .i64 deep)
  fz : ∀ o, w.frozen? ⟨b, o, none⟩ = false

theorem MeasAt.below {w w' : World} {b : Nat} {bad : Bool} {size deep : Int} (h : MeasAt w b bad size deep) (k : Below w.heap.size w w') : MeasAt w' b bad size deep := by
  have hb := World.block_lt_of_cell? w _ h.c0
  simp only at hb
  exact ⟨(k.cell (p := ⟨b, 0, none⟩) hb).trans h.c0, (k.cell (p := ⟨b, 1, none⟩) hb).trans h.c1, (k.cell (p := ⟨b, 2, none⟩) hb).trans h.c2, fun o => (k.frozen (p := ⟨b, o, none⟩) hb).trans (h.fz o)⟩
theorem MeasAt.fr {M : Nat → Prop} {w w' : World} {b : Nat} {bad : Bool} {size deep : Int} (h : MeasAt w b bad size deep) (k : Fr M w w') (hm : ¬ M b) : MeasAt w' b bad size deep := by
  have hb := World.block_lt_of_cell? w _ h.c0
  simp only at hb
  have e := k.block b hb hm
  exact ⟨(World.cell?_of_block (w := w) e).trans h.c0, (World.cell?_of_block (w := w) e).trans h.c1, (World.cell?_of_block (w := w) e).trans h.c2, fun o => (World.frozen?_of_block (w := w) (a := ⟨b, o, none⟩) e).trans (h.fz o)⟩

theorem take_any (t : Tm) (a : Option Addr) (c : Nat) (w : World) (b : Nat) (bad : Bool) (size deep d mx : Int) (hm : MeasAt w b bad size deep) (h0 : 0 ≤ size) (h1 : size ≤ 4611686018427387904) (hmx : (deep < d ∧ mx = d) ∨ (d ≤ deep ∧ mx = deep)) :
    Calls Tryd.prog 59 #[.pointer (some ⟨b, 0, none⟩), tmVal t a c, .int .i64 d] w fun e w' => e = .returned (.tuple #[]) ∧ MeasAt w' b (bad || !mayB t) (size + 1) mx ∧ Fr (· = b) w w' := by
  obtain ⟨c0, c1, c2, fz⟩ := hm
  have f0 := fz 0
  have f1 := fz 1
  have f2 := fz 2
  have hb := World.block_lt_of_cell? w _ c0
  have FZ := Lib.hid fz; clear fz
  simp only at hb
  simp only [tmVal]
  rcases hmx with ⟨hd, rfl⟩ | ⟨hd, rfl⟩
  all_goals
    go_enter Tryd.func59, Tryd.ntmps59
    go_wp2_with fail
    refine (may_any t a c _).mono ?_
    rintro e w1 ⟨rfl, hb1⟩
    have m1 : MeasAt w1 b bad (size + 1) mx := MeasAt.below (by refine ⟨?_, ?_, ?_, fun o => ?_⟩ <;> go_simp <;> exact FZ.out o) hb1
    have r1 : Fr (· = b) w w1 := (((Fr.set1 w b 1 _).trans (Fr.set1 _ b 2 _)).trans (Fr.alloc _ _ _)).trans (Fr.of_below hb1)
    clear hb1 c0 c1 c2 f0 f1 f2
    obtain ⟨c0, c1, c2, fz⟩ := m1
    have f0 := fz 0
    have hb1 := World.block_lt_of_cell? w1 _ c0
    simp only at hb1
    clear FZ
    have FZ := Lib.hid fz; clear fz
    have R1 := Lib.hid r1; clear r1
    by_cases hm : mayB t = true
    · go_wp2_with fail
      go_end0
      refine ⟨rfl, ?_, R1.out⟩
      rw [hm]; simpa using ⟨c0, c1, c2, FZ.out⟩
    · have hm' : mayB t = false := by simpa using hm
      clear hm
      go_wp2_with fail
      go_end0
      refine ⟨rfl, ?_, R1.out.trans (Fr.set1 _ b 0 _)⟩
      rw [hm']
      refine ⟨?_, ?_, ?_, fun o => ?_⟩ <;> go_simp <;> exact FZ.out o
end Go.Proofs.YtkjkckdjenjgdaaDoor
