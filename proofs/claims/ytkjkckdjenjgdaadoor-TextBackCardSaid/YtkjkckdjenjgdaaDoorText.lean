/- Walks over package text, the first: the small functions, and what is done of atoms. -/
import Derived.Test.YtkjkckdjenjgdaaDoorWd
import Derived.Test.YtkjkckdjenjgdaaDoorWc
import Derived.Deep.QuietTactic
import Derived.BigQuiet
import Derived.WalkLawsBesides
import Derived.WalkSpells
import Derived.Deep.RegionHeld3
import Derived.Deep.DeepCutAuto
namespace Go.Proofs.YtkjkckdjenjgdaaDoor
open Go Go.RowKit

def atomT (s : ByteArray) : Tm := .mk 3 0 s []
def varT (n : Int) : Tm := .mk 1 n ⟨#[]⟩ []
def intT (n : Int) : Tm := .mk 2 n ⟨#[]⟩ []

/-- What a builtin comes to. -/
structure DidS where
  ok : Bool
  args : List Int
  terms : List Tm
  wrong : Tm
/-- A slice of numbers. -/
def IntsC (w : World) (I : Nat → Prop) (l : List Int) (a : Option Addr) (c : Nat) : Prop :=
  l.length ≤ c ∧ (0 < l.length → ∃ b o, a = some ⟨b, o, none⟩ ∧ I b ∧ ∀ i u, l[i]? = some u → w.cell? ⟨b, o + i, none⟩ = some (.int .i64 u))
def didVal (d : DidS) (a1 : Option Addr) (c1 : Nat) (a2 : Option Addr) (c2 : Nat) (a3 : Option Addr) (c3 : Nat) : Value :=
  .agg #[.bool d.ok, .slice a1 d.args.length c1, .slice a2 d.terms.length c2, .int .i64 d.wrong.kind, .int .i64 d.wrong.n, .string d.wrong.s, .slice a3 d.wrong.args.length c3]
def DidV (w : World) (I : Nat → Prop) (d : DidS) (v : Value) : Prop :=
  ∃ a1 c1 a2 c2 a3 c3, v = didVal d a1 c1 a2 c2 a3 c3 ∧ IntsC w I d.args a1 c1 ∧ SlC w I d.terms a2 c2 ∧ SlC w I d.wrong.args a3 c3
theorem IntsC.keep {w w' : World} {I : Nat → Prop} {l : List Int} {a : Option Addr} {c : Nat} (h : ∀ b, I b → b < w.heap.size → w'.heap[b]? = w.heap[b]?) (ht : IntsC w I l a c) : IntsC w' I l a c :=
  ⟨ht.1, fun hl => by
    obtain ⟨b, o, ha, hi, hc⟩ := ht.2 hl
    refine ⟨b, o, ha, hi, fun i u hu => ?_⟩
    have := hc i u hu
    exact (World.cell?_of_block (w := w) (h b hi (World.block_lt_of_cell? w _ this))).trans this⟩
theorem IntsC.mono {w : World} {I J : Nat → Prop} {l : List Int} {a : Option Addr} {c : Nat} (ht : IntsC w I l a c) (h : ∀ b, I b → J b) : IntsC w J l a c :=
  ⟨ht.1, fun hl => let ⟨b, o, ha, hi, hc⟩ := ht.2 hl; ⟨b, o, ha, h b hi, hc⟩⟩
theorem DidV.mono {w : World} {I J : Nat → Prop} {d : DidS} {v : Value} (ht : DidV w I d v) (h : ∀ b, I b → J b) : DidV w J d v :=
  let ⟨a1, c1, a2, c2, a3, c3, hv, h1, h2, h3⟩ := ht
  ⟨a1, c1, a2, c2, a3, c3, hv, h1.mono h, h2.mono h, h3.mono h⟩
theorem DidV.keep {w w' : World} {I : Nat → Prop} {d : DidS} {v : Value} (h : ∀ b, I b → b < w.heap.size → w'.heap[b]? = w.heap[b]?) (ht : DidV w I d v) : DidV w' I d v :=
  let ⟨a1, c1, a2, c2, a3, c3, hv, h1, h2, h3⟩ := ht
  ⟨a1, c1, a2, c2, a3, c3, hv, h1.keep h, h2.keep h, h3.keep h⟩
theorem DidV.fr {w w' : World} {I M : Nat → Prop} {d : DidS} {v : Value} (ht : DidV w I d v) (h : Fr M w w') (hM : ∀ b, I b → ¬ M b) : DidV w' I d v := ht.keep fun b hi hb => h.block b hb (hM b hi)
def noT : Tm := .mk 0 0 ⟨#[]⟩ []
def didIs (arg : Int) (t : Tm) : DidS := ⟨true, [arg], [t], noT⟩

theorem atom_any (s : ByteArray) (w : World) :
    Calls Tryd.prog 39 #[.string s] w fun e w' => e = .returned (tmVal (atomT s) none 0) ∧ Below w.heap.size w w' := by
  go_enter Tryd.func39, Tryd.ntmps39
  go_wp2
  refine bodyPost_ret (v := tmVal (atomT s) none 0) (by simp [results, Tryd.results39, go_sem, tmVal, atomT, Tm.kind, Tm.n, Tm.s, Tm.args]) rfl ⟨rfl, ?_⟩
  exact (Below.refl _ _).alloc (Nat.le_refl _) _
theorem whole_any (n : Int) (w : World) :
    Calls Tryd.prog 37 #[.int .i64 n] w fun e w' => e = .returned (tmVal (intT n) none 0) ∧ Below w.heap.size w w' := by
  go_enter Tryd.func37, Tryd.ntmps37
  go_wp2
  refine bodyPost_ret (v := tmVal (intT n) none 0) (by simp [results, Tryd.results37, go_sem, tmVal, intT, Tm.kind, Tm.n, Tm.s, Tm.args]) rfl ⟨rfl, ?_⟩
  exact (Below.refl _ _).alloc (Nat.le_refl _) _

theorem nameOf_atom (s : ByteArray) (n : Int) (l : Nat) (a : Option Addr) (c : Nat) (w : World) :
    Calls Tryd.prog 34 #[.agg #[.int .i64 3, .int .i64 n, .string s, .slice a l c]] w fun e w' => e = .returned (.tuple #[.string s, .bool true]) ∧ Below w.heap.size w w' := by
  go_enter Tryd.func34, Tryd.ntmps34
  go_wp2_with fail
  go_ret2
  exact ⟨rfl, (Below.refl _ _).alloc (Nat.le_refl _) _⟩
theorem nameOf_none (k n : Int) (s : ByteArray) (l : Nat) (a : Option Addr) (c : Nat) (w : World) (h2 : (k == 2) = false) (h3 : (k == 3) = false) :
    Calls Tryd.prog 34 #[.agg #[.int .i64 k, .int .i64 n, .string s, .slice a l c]] w fun e w' => e = .returned (.tuple #[.string ⟨#[]⟩, .bool false]) ∧ Below w.heap.size w w' := by
  go_enter Tryd.func34, Tryd.ntmps34
  go_wp2_with fail
  go_ret2
  exact ⟨rfl, (Below.refl _ _).alloc (Nat.le_refl _) _⟩

theorem is_any (arg : Int) (t : Tm) (a : Option Addr) (c : Nat) (w : World) (I : Nat → Prop) (ht : SlC w I t.args a c) :
    Calls Tryd.prog 36 #[.int .i64 arg, tmVal t a c] w fun e w' => Ret (fun v w' => DidV w' (fun b => I b ∨ w.heap.size ≤ b) (didIs arg t) v ∧ Below w.heap.size w w') e w' := by
  simp only [tmVal]
  go_enter Tryd.func36, Tryd.ntmps36
  go_wp2
  refine bodyPost_ret (v := didVal (didIs arg t) (some ⟨w.heap.size + 2, 0, none⟩) 1 (some ⟨w.heap.size + 3, 0, none⟩) 1 none 0) (by simp only [results, Tryd.results36, didVal, didIs, noT, Tm.kind, Tm.n, Tm.s, Tm.args]; go_simp) rfl ?_
  have hfr : ∀ M, Fr M w ((((w.alloc (Obj.cells #[.int .i64 t.kind, .int .i64 t.n, .string t.s, .slice a t.args.length c] 28)).alloc
    (Obj.cells #[.bool true, .slice (some ⟨w.heap.size + 1 + 1, 0, none⟩) 1 1, .slice (some ⟨w.heap.size + 1 + 1 + 1, 0, none⟩) 1 1, .int .i64 0, .int .i64 0, .string ⟨#[]⟩, .slice none 0 0] 35)).alloc
      (Obj.cells #[.int .i64 arg] 3)).alloc (Obj.cells #[.int .i64 t.kind, .int .i64 t.n, .string t.s, .slice a t.args.length c] 28)) :=
    fun M => (((Fr.alloc M w _).trans (Fr.alloc M _ _)).trans (Fr.alloc M _ _)).trans (Fr.alloc M _ _)
  refine ⟨_, rfl, ⟨_, _, _, _, _, _, rfl, ⟨Nat.le_refl _, fun _ => ⟨_, _, rfl, .inr (by omega), fun i u hu => ?_⟩⟩, ⟨Nat.le_refl _, fun _ => ⟨_, _, rfl, ?_⟩⟩, ⟨Nat.le_refl _, by simp [didIs, noT, Tm.args]⟩⟩, (hfr (fun _ => False)).below (Nat.le_refl _) fun _ h => h.elim⟩
  · cases i with
    | zero => simp only [didIs, List.getElem?_cons_zero, Option.some.injEq] at hu; subst hu; go_simp
    | succ i => simp [didIs] at hu
  · simp only [didIs, TmsC, and_true]
    refine TmC.iff.2 ⟨.inr (by omega), by go_simp, by go_simp, by go_simp, a, c, by go_simp, ?_⟩
    exact (ht.fr (hfr (fun _ => False)) fun _ _ => id).mono fun b hb => .inl hb

/-- A variable in a box of its own. -/
structure Box (w wc : World) (v : Value) (p : Nat) (cs : Array Value) (t : TypeId) : Prop where
  ptr : v = .pointer (some ⟨p, 0, none⟩)
  le : w.heap.size ≤ p
  lt : p < wc.heap.size
  blk : wc.heap[p]? = some (.cells cs t (0, 0))
def zeroDid : Array Value := #[.bool false, .slice none 0 0, .slice none 0 0, .int .i64 0, .int .i64 0, .string ⟨#[]⟩, .slice none 0 0]
end Go.Proofs.YtkjkckdjenjgdaaDoor
