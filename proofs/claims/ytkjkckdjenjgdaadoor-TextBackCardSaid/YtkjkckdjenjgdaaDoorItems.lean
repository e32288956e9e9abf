/- The walks over term.rename by 'same', term.Items, term.List. -/
import Derived.Test.YtkjkckdjenjgdaaDoorWc
import Derived.Deep.RegionHeld3
import Derived.Deep.DeepCutAuto
namespace Go.Proofs.YtkjkckdjenjgdaaDoor
open Go Go.RowKit

def sameV : Numb Unit where
  num := fun st n => (n, st)
  inv := fun _ _ M _ => ∀ b, ¬ M b
  lt := fun _ _ _ _ h b hb => (h b hb).elim
  stab := fun _ _ _ _ _ h _ => h
  less := fun _ _ _ _ h => h
theorem same_any (n : Int) (w : World) : Calls Tryd.prog 75 #[.int .i64 n] w fun e w' => e = .returned (.int .i64 n) ∧ w = w' := by
  go_enter Tryd.func75, Tryd.ntmps75
  go_wp2
  go_ret
  exact ⟨rfl, rfl⟩
theorem sameV_ok : sameV.ok 75 #[] := by
  intro k st M w n h
  refine (same_any n w).mono ?_
  rintro e w' ⟨rfl, rfl⟩
  exact ⟨rfl, M, h, fun b hb => .inl hb, Fr.refl _ _⟩
mutual
theorem ren_same : ∀ (t : Tm) (st : Unit), ren sameV.num t st = (t, st)
  | .mk k n s ts, st => by
    have h : (if k = 1 then sameV.num st n else (n, st)) = (n, st) := by split <;> rfl
    simp only [ren, h, rens_same ts st]
theorem rens_same : ∀ (ts : List Tm) (st : Unit), rens sameV.num ts st = (ts, st)
  | [], _ => rfl
  | t :: ts, st => by simp only [rens, ren_same t st, rens_same ts st]
end
theorem hcall_same (args : Array Value) (w : World) : (callFunc 75 args).run Tryd.prog w = .ok (.enter 75 args) w := by kernel_rfl
theorem own_any (I : Nat → Prop) (t : Tm) (a : Option Addr) (c : Nat) (w : World) (ht : SlC w I t.args a c) (hl : t.size ≤ 1000000000) :
    Calls Tryd.prog 74 #[tmVal t a c, .func (.func 75) #[] #[]] w fun e w' => Ret (fun v w' => TmV w' (fun b => w.heap.size ≤ b) t v ∧ Below w.heap.size w w') e w' := by
  refine (rename_any sameV (fun b => I b ∧ b < w.heap.size) (fun _ => False) 75 #[] () t a c w hcall_same sameV_ok (fun b hb => hb.2) (fun _ _ h => h) (fun _ h => h) ht.there hl).mono ?_
  rintro e w' ⟨v, rfl, hv, M', _, _, hfr⟩
  rw [ren_same] at hv
  exact ⟨v, rfl, hv, hfr.below (Nat.le_refl _) fun _ h => h.elim⟩

def dotS : ByteArray := ⟨#[46]⟩
def isCons (t : Tm) : Bool := t.kind == 4 && (decide (t.s.data.toList = [46]) && t.args.length == 2)
def consT (x y : Tm) : Tm := .mk 4 0 dotS [x, y]
def listT (xs : List Tm) (tail : Tm) : Tm := xs.foldr consT tail
def itemsF : Nat → Tm → List Tm × Tm
  | 0, t => ([], t)
  | f + 1, .mk k n s ts => if isCons (.mk k n s ts) = true then
      (match ts with
       | [x, y] => (x :: (itemsF f y).1, (itemsF f y).2)
       | _ => ([], .mk k n s ts))
    else ([], .mk k n s ts)

theorem infoTermSl : (Tryd.prog.info? 28).map (fun i => (i.zero, i.size, i.bytes)) = some (some (.agg #[.int .i64 0, .int .i64 0, .string ⟨#[]⟩, .slice none 0 0]), 4, 56) := by kernel_rfl

/-- Where the list has been made from the m-th item on. -/
structure ListRel (w : World) (B : Nat) (xs : List Tm) (tail : Tm) (m : Nat) (wr : World) : Prop where
  le : m ≤ xs.length
  bel : Below w.heap.size w wr
  ex : ∃ a c, wr.heap[B]? = some (.cells #[.int .i64 (listT (xs.drop m) tail).kind, .int .i64 (listT (xs.drop m) tail).n, .string (listT (xs.drop m) tail).s, .slice a (listT (xs.drop m) tail).args.length c] 28 (0, 0)) ∧
    SlC wr (fun b => w.heap.size ≤ b ∧ b ≠ B ∧ b ≠ w.heap.size + 1) (listT (xs.drop m) tail).args a c
  res : wr.heap[w.heap.size + 1]? = some (.cells #[.int .i64 0, .int .i64 0, .string ⟨#[]⟩, .slice none 0 0] 28 (0, 0))

theorem ListRel.step {w : World} {B : Nat} {xs : List Tm} {tail t lt : Tm} {j : Nat} {wr w2 : World} {a2 a3 : Option Addr} {c2 c3 : Nat} (Q : ListRel w B xs tail (j + 1) wr) (hBw : w.heap.size + 2 ≤ B)
    (hlt : lt = listT (xs.drop (j + 1)) tail) (ht : xs[j]? = some t) (hbox : wr.heap[B]? = some (.cells #[.int .i64 lt.kind, .int .i64 lt.n, .string lt.s, .slice a2 lt.args.length c2] 28 (0, 0)))
    (hsl : SlC wr (fun b => w.heap.size ≤ b ∧ b ≠ B ∧ b ≠ w.heap.size + 1) lt.args a2 c2) (hs3 : SlC w2 (fun b => wr.drew.heap.size ≤ b) t.args a3 c3) (hb2 : Below wr.drew.heap.size wr.drew w2) :
    ListRel w B xs tail j (((((w2.setCell ⟨B, 0, none⟩ (.int .i64 4)).setCell ⟨B, 1, none⟩ (.int .i64 0)).setCell ⟨B, 2, none⟩ (.string ⟨#[46]⟩)).setCell ⟨B, 3, none⟩ (.slice (some ⟨w2.heap.size, 0, none⟩) 2 2)).alloc
      (.cells #[.int .i64 t.kind, .int .i64 t.n, .string t.s, .slice a3 t.args.length c3, .int .i64 lt.kind, .int .i64 lt.n, .string lt.s, .slice a2 lt.args.length c2] 28)) := by
  have hb2' : Below wr.heap.size wr w2 := ((Below.refl _ wr).drew).trans hb2
  have hdrop : xs.drop j = t :: xs.drop (j + 1) := by
    have hj := (List.getElem?_eq_some_iff.1 ht)
    rw [List.drop_eq_getElem_cons hj.1, hj.2]
  have hcons : listT (xs.drop j) tail = consT t lt := by rw [hdrop, hlt]; rfl
  have hBr := (Array.getElem?_eq_some_iff.1 hbox).1
  have hrr := (Array.getElem?_eq_some_iff.1 Q.res).1
  have hs2 := hb2'.size
  obtain ⟨X, hX⟩ : ∃ X, X = ((((w2.setCell ⟨B, 0, none⟩ (.int .i64 4)).setCell ⟨B, 1, none⟩ (.int .i64 0)).setCell ⟨B, 2, none⟩ (.string ⟨#[46]⟩)).setCell ⟨B, 3, none⟩ (.slice (some ⟨w2.heap.size, 0, none⟩) 2 2)) := ⟨_, rfl⟩
  have hset : Fr (· = B) w2 X := hX ▸ (((Fr.set1 _ _ _ _).trans (Fr.set1 _ _ _ _)).trans (Fr.set1 _ _ _ _)).trans (Fr.set1 _ _ _ _)
  have hXs : X.heap.size = w2.heap.size := by rw [hX]; simp
  have hXB : X.heap[B]? = some (.cells #[.int .i64 4, .int .i64 0, .string ⟨#[46]⟩, .slice (some ⟨w2.heap.size, 0, none⟩) 2 2] 28 (0, 0)) := by
    rw [hX]
    have := heap_set (i := 3) (v := .slice (some ⟨w2.heap.size, 0, none⟩) 2 2) (heap_set (i := 2) (v := .string ⟨#[46]⟩) (heap_set (i := 1) (v := .int .i64 0) (heap_set (i := 0) (v := .int .i64 4) ((hb2'.block B hBr).trans hbox))))
    simpa using this
  rw [← hX]
  generalize hcs : (#[.int .i64 t.kind, .int .i64 t.n, .string t.s, .slice a3 t.args.length c3, .int .i64 lt.kind, .int .i64 lt.n, .string lt.s, .slice a2 lt.args.length c2] : Array Value) = cs
  have hnew : (X.alloc (.cells cs 28)).heap[w2.heap.size]? = some (.cells cs 28 (0, 0)) := heap_new' hXs.symm
  have hfx : Fr (· = B) w2 (X.alloc (.cells cs 28)) := hset.trans (Fr.alloc _ _ _)
  refine ⟨by have := Q.le; omega, Q.bel.trans ((hb2'.mono (by have := Q.bel.size; omega)).trans (hfx.below (by have := Q.bel.size; omega) fun k hk => by omega)), ⟨some ⟨w2.heap.size, 0, none⟩, 2, ?_, ?_⟩, ?_⟩
  · rw [hcons]
    exact heap_old' (by omega) hXB
  · rw [hcons]
    refine ⟨Nat.le_refl _, fun _ => ⟨_, _, rfl, ?_⟩⟩
    subst hcs
    have hI : w.heap.size ≤ w2.heap.size ∧ w2.heap.size ≠ B ∧ w2.heap.size ≠ w.heap.size + 1 := by have := Q.bel.size; omega
    simp only [consT, Tm.args, TmsC, and_true]
    refine ⟨TmC.iff.2 ⟨hI, cell_of_block hnew 0 (by simp), cell_of_block hnew 1 (by simp), cell_of_block hnew 2 (by simp), a3, c3, cell_of_block hnew 3 (by simp), ?_⟩,
      TmC.iff.2 ⟨hI, cell_of_block hnew 4 (by simp), cell_of_block hnew 5 (by simp), cell_of_block hnew 6 (by simp), a2, c2, cell_of_block hnew 7 (by simp), ?_⟩⟩
    · exact (hs3.fr hfx fun b hb e => by have : wr.heap.size ≤ b := hb; omega).mono fun b hb => by have : wr.heap.size ≤ b := hb; have := Q.bel.size; omega
    · exact ((hsl.below hb2').fr hfx fun b hb => hb.2.1)
  · refine heap_old' (by omega) ?_
    rw [hset.block _ (by omega) (by omega), hb2'.block _ hrr]
    exact Q.res
theorem ListRel.drew {w : World} {B : Nat} {xs : List Tm} {tail : Tm} {j : Nat} {wr : World} (Q : ListRel w B xs tail j wr) : ListRel w B xs tail j wr.drew :=
  ⟨Q.le, Q.bel.drew, let ⟨a, c, h1, h2⟩ := Q.ex; ⟨a, c, h1, h2.drew⟩, Q.res⟩

set_option maxHeartbeats 1000000 in
set_option maxRecDepth 100000 in
theorem list_any (I : Nat → Prop) (xs : List Tm) (tail : Tm) (a at1 : Option Addr) (c ct : Nat) (w : World) (hx : SlC w I xs a c) (ht : SlC w I tail.args at1 ct) (hl : xs.length ≤ 1000000) (hs : ∀ t ∈ xs, t.size ≤ 1000000000) (hts : tail.size ≤ 1000000000) :
    Calls Tryd.prog 61 #[.slice a xs.length c, tmVal tail at1 ct] w fun e w' => Ret (fun v w' => TmV w' (fun b => w.heap.size ≤ b) (listT xs tail) v ∧ Below w.heap.size w w') e w' := by
  simp only [tmVal]
  obtain ⟨n, hn⟩ : ∃ n, n = xs.length := ⟨_, rfl⟩
  rw [← hn] at hl ⊢
  have HN := Lib.hid (And.intro hn (And.intro hx (And.intro ht (And.intro hs hts))))
  clear hn hx ht hs hts
  go_enter Tryd.func61, Tryd.ntmps61
  go_wp2_with fail
  refine (own_any I tail at1 ct _ (HN.out.2.2.1.fr ((Fr.alloc (fun _ => False) _ _).trans (Fr.alloc _ _ _)) fun _ _ => id) HN.out.2.2.2.2).mono ?_
  rintro e w1 ⟨_, rfl, ⟨a1, c1, rfl, hs1⟩, hb1⟩
  have hs1z := hb1.size
  rw [World.size_alloc, World.size_alloc] at hs1z
  have H1 := Lib.hid (And.intro hs1 hb1)
  clear hs1 hb1
  dsimp only [Act.put, tmVal]
  go_wp2_with fail
  obtain ⟨B, hB⟩ : ∃ B, B = w1.heap.size := ⟨_, rfl⟩
  have hBw : w.heap.size + 2 ≤ B := by omega
  obtain ⟨W1, hW1⟩ : ∃ W1, W1 = w1.alloc (.cells #[.int .i64 tail.kind, .int .i64 tail.n, .string tail.s, .slice a1 tail.args.length c1] 28) := ⟨_, rfl⟩
  have hstart : ListRel w B xs tail n W1 := by
    obtain ⟨hs1, hb1⟩ := H1.out
    have hdrop : xs.drop n = [] := by rw [HN.out.1]; exact List.drop_length
    refine ⟨by rw [HN.out.1]; exact Nat.le_refl _, ?_, ⟨a1, c1, ?_, ?_⟩, ?_⟩
    · rw [hW1]
      exact ((((Below.refl _ w).alloc (Nat.le_refl _) _).alloc (by simp) _).trans (hb1.mono (by simp only [World.size_alloc]; omega))).alloc (by omega) _
    · rw [hW1, hB, hdrop]; exact heap_alloc_new _ _
    · rw [hW1, hdrop]
      exact (hs1.there.fr (Fr.alloc (fun _ => False) _ _) fun _ _ => id).mono fun b hb => by
        simp only [World.size_alloc] at hb
        omega
    · rw [hW1]
      refine heap_old' (by omega) ?_
      rw [hb1.block _ (by simp only [World.size_alloc]; omega)]
      exact heap_new' (by simp only [World.size_alloc])
  rw [← hW1, ← hB]
  have HST := Lib.hid hstart
  clear hstart hW1 hB
  go_loopg [6] n (fun k i wr => i = .int .i64 ((k : Int) - 1) ∧ ListRel w B xs tail k wr)
  case atStart => exact ⟨rfl, HST.out⟩
  case round =>
    obtain ⟨rfl, Q⟩ := hrel
    obtain ⟨a2, c2, hbox, hsl⟩ := Q.ex
    have hres := Q.res
    have hBr := (Array.getElem?_eq_some_iff.1 hbox).1
    rcases Nat.eq_zero_or_pos gk with h0 | h0
    · subst h0
      rw [List.drop_zero] at hbox hsl
      obtain ⟨lt, hlt⟩ : ∃ lt, lt = listT xs tail := ⟨_, rfl⟩
      rw [← hlt] at hbox hsl
      have x0 := cell_of_block hbox 0 (by simp)
      simp only [List.getElem_toArray, List.getElem_cons_zero, List.getElem_cons_succ] at x0
      have x1 := cell_of_block hbox 1 (by simp)
      simp only [List.getElem_toArray, List.getElem_cons_zero, List.getElem_cons_succ] at x1
      have x2 := cell_of_block hbox 2 (by simp)
      simp only [List.getElem_toArray, List.getElem_cons_zero, List.getElem_cons_succ] at x2
      have x3 := cell_of_block hbox 3 (by simp)
      simp only [List.getElem_toArray, List.getElem_cons_zero, List.getElem_cons_succ] at x3
      have r0 := cell_of_block hres 0 (by simp)
      simp only [List.getElem_toArray, List.getElem_cons_zero, List.getElem_cons_succ] at r0
      have f0 := frozen_of_block hres 0
      have r1 := cell_of_block hres 1 (by simp)
      simp only [List.getElem_toArray, List.getElem_cons_zero, List.getElem_cons_succ] at r1
      have f1 := frozen_of_block hres 1
      have r2 := cell_of_block hres 2 (by simp)
      simp only [List.getElem_toArray, List.getElem_cons_zero, List.getElem_cons_succ] at r2
      have f2 := frozen_of_block hres 2
      have r3 := cell_of_block hres 3 (by simp)
      simp only [List.getElem_toArray, List.getElem_cons_zero, List.getElem_cons_succ] at r3
      have f3 := frozen_of_block hres 3
      have HQ := Lib.hid (And.intro Q (And.intro hsl hlt))
      clear Q hsl hlt hbox hres
      simp only [Int.natCast_zero, Int.zero_sub]
      go_wp2_with fail
      refine bodyPost_ret (v := tmVal lt a2 c2) (by simp only [results, Tryd.results61, tmVal]; go_simp) rfl ?_
      obtain ⟨Q, hsl, hlt⟩ := HQ.out
      have hset : Fr (· = w.heap.size + 1) wr ((((wr.setCell ⟨w.heap.size + 1, 0, none⟩ (.int .i64 lt.kind)).setCell ⟨w.heap.size + 1, 1, none⟩ (.int .i64 lt.n)).setCell ⟨w.heap.size + 1, 2, none⟩ (.string lt.s)).setCell ⟨w.heap.size + 1, 3, none⟩ (.slice a2 lt.args.length c2)) :=
        (((Fr.set1 _ _ _ _).trans (Fr.set1 _ _ _ _)).trans (Fr.set1 _ _ _ _)).trans (Fr.set1 _ _ _ _)
      rw [← hlt]
      refine ⟨_, rfl, ⟨a2, c2, rfl, (hsl.fr hset fun b hb => hb.2.2).mono fun b hb => hb.1⟩, Q.bel.trans (hset.below Q.bel.size fun k hk => by omega)⟩
    · obtain ⟨j, rfl⟩ : ∃ j, gk = j + 1 := ⟨gk - 1, by omega⟩
      have hjl := Q.le
      have hjn : j < n := by rw [HN.out.1]; omega
      obtain ⟨lt, hlt⟩ : ∃ lt, lt = listT (xs.drop (j + 1)) tail := ⟨_, rfl⟩
      rw [← hlt] at hbox hsl
      have hxr : SlC wr I xs a c := HN.out.2.1.below Q.bel
      obtain ⟨bb, oo, ha, hts⟩ := hxr.2 (by omega)
      obtain ⟨a0, p0, x0, x1, x2, x3, hs0⟩ := hts.cells j (by omega)
      obtain ⟨t, ht⟩ : ∃ t, t = xs[j]'(by omega) := ⟨_, rfl⟩
      rw [← ht] at x0 x1 x2 x3 hs0
      have htsz : t.size ≤ 1000000000 := HN.out.2.2.2.1 t (by rw [ht]; exact List.getElem_mem _)
      have hlb := World.block_lt_of_cell? wr _ x0
      simp only at hlb
      have y0 := cell_of_block hbox 0 (by simp)
      simp only [List.getElem_toArray, List.getElem_cons_zero, List.getElem_cons_succ] at y0
      have f0 := frozen_of_block hbox 0
      have y1 := cell_of_block hbox 1 (by simp)
      simp only [List.getElem_toArray, List.getElem_cons_zero, List.getElem_cons_succ] at y1
      have f1 := frozen_of_block hbox 1
      have y2 := cell_of_block hbox 2 (by simp)
      simp only [List.getElem_toArray, List.getElem_cons_zero, List.getElem_cons_succ] at y2
      have f2 := frozen_of_block hbox 2
      have y3 := cell_of_block hbox 3 (by simp)
      simp only [List.getElem_toArray, List.getElem_cons_zero, List.getElem_cons_succ] at y3
      have f3 := frozen_of_block hbox 3
      have HQ := Lib.hid (And.intro Q (And.intro hsl (And.intro hlt (And.intro hs0 (And.intro ht (And.intro htsz (And.intro hbox hres)))))))
      clear Q hsl hlt hs0 ht htsz hbox hres hts hxr
      subst ha
      simp only [Int.natCast_succ, Int.add_sub_cancel]
      go_wp2_with fail
      go_region_with ((have hh := own_any I t a0 p0 wr.drew HQ.out.2.2.2.1.drew HQ.out.2.2.2.2.2.1; simp only [tmVal] at hh; (with_reducible refine Calls.mono hh ?_); clear hh; rintro e w2 ⟨_, rfl, ⟨a3, c3, rfl, hs3⟩, hb2⟩; have g0 : w2.frozen? ⟨B, 0, none⟩ = false := (hb2.frozen (p := ⟨B, 0, none⟩) hBr).trans f0; have g1 : w2.frozen? ⟨B, 1, none⟩ = false := (hb2.frozen (p := ⟨B, 1, none⟩) hBr).trans f1; have g2 : w2.frozen? ⟨B, 2, none⟩ = false := (hb2.frozen (p := ⟨B, 2, none⟩) hBr).trans f2; have g3 : w2.frozen? ⟨B, 3, none⟩ = false := (hb2.frozen (p := ⟨B, 3, none⟩) hBr).trans f3; have hB2 : B < w2.heap.size := Nat.lt_of_lt_of_le hBr hb2.size; have HB2 := Lib.hid (And.intro hs3 hb2); have z0 := keep_below hb2 y0; have z1 := keep_below hb2 y1; have z2 := keep_below hb2 y2; have z3 := keep_below hb2 y3; clear hs3 hb2; dsimp only [tmVal]))
      all_goals
        go_wp2_with fail
        go_roundg j
        case measure => omega
        case rel =>
          refine ⟨rfl, ?_⟩
          obtain ⟨Q, hsl, hlt, hs0, ht, htsz, hbox, hres⟩ := HQ.out
          have hstep := ListRel.step Q hBw hlt (List.getElem?_eq_some_iff.2 ⟨_, ht.symm⟩) hbox hsl HB2.out.1 HB2.out.2
          first | exact hstep | exact hstep.drew
end Go.Proofs.YtkjkckdjenjgdaaDoor
