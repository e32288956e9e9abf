/- The walk over term.Items. -/
import Derived.Test.YtkjkckdjenjgdaaDoorItems
import Derived.WalkLawsBesides
import Derived.WalkSpells
import Derived.Deep.AppendLies
namespace Go.Proofs.YtkjkckdjenjgdaaDoor
open Go Go.RowKit

def AbI.cells4 (x : AbI) : List Value := [.int .i64 x.t.kind, .int .i64 x.t.n, .string x.t.s, .slice x.a x.t.args.length x.c]
theorem AbI.length_cells4 (x : AbI) : x.cells4.length = 4 := rfl
/-- A slice of terms that the call itself has put together. -/
theorem SlC.of_stk {w : World} {base : Nat} {L : List AbI} {a : Option Addr} {c : Nat} {J : Nat → Prop} (h : Stk w base 28 4 AbI.cells4 (.slice a L.length c) L) (hJ : ∀ b, base ≤ b → J b) (hs : ∀ x ∈ L, SlC w J x.t.args x.a x.c) : SlC w J (L.map (·.t)) a c := by
  obtain ⟨h1, h2⟩ := h
  rcases h2 with ⟨h2, h0⟩ | ⟨g, cap, cur, hv, hg, hh, hn, hcap, hsz, htake⟩
  · have : L = [] := List.eq_nil_of_length_eq_zero h0
    subst this
    exact ⟨Nat.zero_le _, fun h => by simp at h⟩
  · simp only [Value.slice.injEq] at hv
    obtain ⟨rfl, _, rfl⟩ := hv
    refine ⟨by rw [List.length_map]; exact hn, fun _ => ⟨g, 0, rfl, TmsC.of_get fun i hi => ?_⟩⟩
    rw [List.length_map] at hi
    have hx := hs L[i] (List.getElem_mem _)
    have hcell : ∀ j u, j < 4 → (AbI.cells4 L[i])[j]? = some u → w.cell? ⟨g, 0 + i * 4 + j, none⟩ = some u := fun j u hj hu => by
      have h3 := flatMap_get AbI.length_cells4 L i j L[i] (by simp) hj
      rw [hu, ← htake, List.getElem?_take] at h3
      have : i * 4 + j < L.length * 4 := by omega
      rw [if_pos this] at h3
      rw [Nat.zero_add]
      simp only [World.cell?, hh]
      simpa using h3
    rw [List.getElem_map]
    exact TmC.iff.2 ⟨hJ g hg, hcell 0 _ (by omega) rfl, hcell 1 _ (by omega) rfl, hcell 2 _ (by omega) rfl, _, _, hcell 3 _ (by omega) rfl, hx⟩

theorem isCons_args {t : Tm} (h : isCons t = true) : t.kind = 4 ∧ t.s.data.toList = [46] ∧ ∃ x y, t.args = [x, y] := by
  unfold isCons at h
  simp only [Bool.and_eq_true, beq_iff_eq, decide_eq_true_eq] at h
  obtain ⟨h1, h2, h3⟩ := h
  refine ⟨h1, h2, ?_⟩
  match t.args, h3 with
  | [x, y], _ => exact ⟨x, y, rfl⟩
theorem itemsF_cons {f : Nat} {t x y : Tm} (h : isCons t = true) (ha : t.args = [x, y]) : itemsF (f + 1) t = (x :: (itemsF f y).1, (itemsF f y).2) := by
  cases t with | mk k n s ts =>
    simp only [Tm.args] at ha
    subst ha
    simp only [itemsF, h, if_true]
theorem itemsF_none {f : Nat} {t : Tm} (h : isCons t = false) : itemsF f t = ([], t) := by
  cases f with
  | zero => rfl
  | succ f => cases t with | mk k n s ts => simp only [itemsF, h]; simp

/-- The loop's relation: what has been gathered, what is left. -/
structure ItemsRel (w : World) (I : Nat → Prop) (t0 : Tm) (k : Nat) (v : Value) (wr : World) (L : List AbI) (t : Tm) (a : Option Addr) (c : Nat) : Prop where
  stk : Stk wr (w.heap.size + 2) 28 4 AbI.cells4 v L
  its : ∀ x ∈ L, SlC wr (fun b => w.heap.size + 2 ≤ b ∧ ¬ some b = v.ownBlock) x.t.args x.a x.c
  spec : itemsF t0.size t0 = (L.map (·.t) ++ (itemsF k t).1, (itemsF k t).2)
  small : t.size ≤ k
  len : L.length + k = t0.size
  box : wr.heap[w.heap.size]? = some (.cells #[.int .i64 t.kind, .int .i64 t.n, .string t.s, .slice a t.args.length c] 28 (0, 0))
  arg : SlC wr I t.args a c
  res : wr.heap[w.heap.size + 1]? = some (.cells #[.int .i64 0, .int .i64 0, .string ⟨#[]⟩, .slice none 0 0] 28 (0, 0))
  bel : Below w.heap.size w wr

theorem ItemsRel.ne {w wr : World} {I : Nat → Prop} {t0 t : Tm} {k : Nat} {v : Value} {L : List AbI} {a : Option Addr} {c : Nat} (Q : ItemsRel w I t0 k v wr L t a c) : ∀ b, v.ownBlock = some b → w.heap.size + 2 ≤ b := fun b hb => (Q.stk.lt b hb).1
theorem ItemsRel.step {w wr w2 w4 : World} {I : Nat → Prop} {t0 t tx ty : Tm} {k nn g4 cap4 : Nat} {v : Value} {L : List AbI} {a a3 ay : Option Addr} {c c3 py : Nat} (hI : ∀ b, I b → b < w.heap.size)
    (Q : ItemsRel w I t0 (k + 1) v wr L t a c) (hnn : nn = L.length) (hc : isCons t = true) (hargs : t.args = [tx, ty]) (hsy : SlC wr I ty.args ay py) (hs3 : SlC w2 (fun b => wr.heap.size ≤ b) tx.args a3 c3) (hb2 : Below wr.heap.size wr w2)
    (hown : w4.ownsRow (w.heap.size + 2) 28 4 (.slice (some ⟨g4, 0, none⟩) (nn + 1) cap4) (nn + 1) (L.flatMap AbI.cells4 ++ [.int .i64 tx.kind, .int .i64 tx.n, .string tx.s, .slice a3 tx.args.length c3]))
    (hat : v.ownBlock = some g4 ∨ g4 = w2.heap.size + 1) (hf4 : Fr (fun b => some b = v.ownBlock) w2 w4) :
    ItemsRel w I t0 k (.slice (some ⟨g4, 0, none⟩) (nn + 1) cap4) ((((w4.setCell ⟨w.heap.size, 0, none⟩ (.int .i64 ty.kind)).setCell ⟨w.heap.size, 1, none⟩ (.int .i64 ty.n)).setCell ⟨w.heap.size, 2, none⟩ (.string ty.s)).setCell ⟨w.heap.size, 3, none⟩ (.slice ay ty.args.length py)) (L ++ [⟨tx, a3, c3, 0⟩]) ty ay py := by
  obtain ⟨X, hX⟩ : ∃ X, X = ((((w4.setCell ⟨w.heap.size, 0, none⟩ (.int .i64 ty.kind)).setCell ⟨w.heap.size, 1, none⟩ (.int .i64 ty.n)).setCell ⟨w.heap.size, 2, none⟩ (.string ty.s)).setCell ⟨w.heap.size, 3, none⟩ (.slice ay ty.args.length py)) := ⟨_, rfl⟩
  have hset : Fr (· = w.heap.size) w4 X := hX ▸ (((Fr.set1 _ _ _ _).trans (Fr.set1 _ _ _ _)).trans (Fr.set1 _ _ _ _)).trans (Fr.set1 _ _ _ _)
  have hbz := (Array.getElem?_eq_some_iff.1 Q.box).1
  have hrz := (Array.getElem?_eq_some_iff.1 Q.res).1
  have hnr : ∀ b, b < w.heap.size + 2 → ¬ some b = v.ownBlock := fun b hb e => by have := Q.ne b e.symm; omega
  have hs2 := hb2.size
  have hg4 : w.heap.size + 2 ≤ g4 := by
    rcases hat with h | h
    · exact Q.ne _ h
    · omega
  have hf24 : Fr (fun b => some b = v.ownBlock) wr w4 := (Fr.of_below hb2).trans hf4
  have hfx : Fr (fun b => some b = v.ownBlock ∨ b = w.heap.size) wr X := (hf24.mono fun _ h => .inl h).trans (hset.mono fun _ h => .inr h)
  have hXB : X.heap[w.heap.size]? = some (.cells #[.int .i64 ty.kind, .int .i64 ty.n, .string ty.s, .slice ay ty.args.length py] 28 (0, 0)) := by
    rw [hX]
    have := heap_set (i := 3) (v := .slice ay ty.args.length py) (heap_set (i := 2) (v := .string ty.s) (heap_set (i := 1) (v := .int .i64 ty.n) (heap_set (i := 0) (v := .int .i64 ty.kind) ((hf24.block _ hbz (hnr _ (by omega))).trans Q.box))))
    simpa using this
  rw [← hX]
  have hsz := Q.small
  rw [Tm.size_eq, hargs] at hsz
  simp only [Tm.sizes] at hsz
  subst hnn
  refine ⟨?_, ?_, ?_, by omega, by have := Q.len; simp only [List.length_append, List.length_cons, List.length_nil]; omega, hXB, ?_, ?_, ?_⟩
  · refine Stk.fr (Stk.push (x := (⟨tx, a3, c3, 0⟩ : AbI)) hown) hset fun k hk e => ?_
    simp only [Value.ownBlock, Option.some.injEq] at hk
    omega
  · intro x hx
    rcases List.mem_append.1 hx with hx | hx
    · refine ((Q.its x hx).there.fr hfx fun b hb e => ?_).mono fun b hb => ⟨hb.1.1, fun e => ?_⟩
      · rcases e with e | e
        · exact hb.1.2 e
        · have := hb.1.1; omega
      · simp only [Value.ownBlock, Option.some.injEq] at e
        rcases hat with h | h
        · exact hb.1.2 (by rw [h, e])
        · have := hb.2; omega
    · simp only [List.mem_singleton] at hx
      subst hx
      have hf2 : Fr (fun b => some b = v.ownBlock ∨ b = w.heap.size) w2 X := (hf4.mono fun _ h => .inl h).trans (hset.mono fun _ h => .inr h)
      refine (hs3.there.fr hf2 fun b hb e => ?_).mono fun b hb => ⟨by have := hb.1; omega, fun e => ?_⟩
      · have h1 := hb.1
        rcases e with e | e
        · have := (Q.stk.lt b e.symm).2; omega
        · omega
      · simp only [Value.ownBlock, Option.some.injEq] at e
        have h1 := hb.1
        have h2 := hb.2
        rcases hat with h | h
        · have := (Q.stk.lt _ h).2; omega
        · omega
  · rw [Q.spec, itemsF_cons hc hargs]
    simp
  · exact hsy.fr hfx fun b hb e => by
      have := hI b hb
      rcases e with e | e
      · exact hnr b (by omega) e
      · omega
  · rw [hset.block _ (by have := hf24.size; omega) (by omega), hf24.block _ hrz (hnr _ (by omega))]
    exact Q.res
  · exact Q.bel.trans (hfx.below Q.bel.size fun k hk => by
      rcases hk with e | e
      · have := Q.ne k e.symm; omega
      · omega)

theorem ItemsRel.done {w wr w2 X : World} {I : Nat → Prop} {t0 t : Tm} {k : Nat} {va vc : _} {L : List AbI} {a a3 : Option Addr} {c c3 : Nat} {R : List Tm × Tm} (Q : ItemsRel w I t0 k (.slice va L.length vc) wr L t a c) (hc : isCons t = false) (hR : R = itemsF t0.size t0)
    (hs3 : SlC w2 (fun b => wr.heap.size ≤ b) t.args a3 c3) (hb2 : Below wr.heap.size wr w2) (hset : Fr (· = w.heap.size + 1) w2 X) :
    R = (L.map (·.t), t) ∧ SlC X (fun b => w.heap.size ≤ b) R.1 va vc ∧ SlC X (fun b => w.heap.size ≤ b) R.2.args a3 c3 ∧ Below w.heap.size w X := by
  have hRe : R = (L.map (·.t), t) := by
    rw [hR, Q.spec, itemsF_none hc]
    simp
  have hrz := (Array.getElem?_eq_some_iff.1 Q.res).1
  have hs2 := hb2.size
  refine ⟨hRe, ?_, ?_, ?_⟩
  · rw [hRe]
    have hf : Fr (· = w.heap.size + 1) wr X := (Fr.of_below hb2).trans hset
    refine SlC.of_stk (base := w.heap.size + 2) (Stk.fr Q.stk hf fun k hk e => ?_) (fun b hb => by omega) fun x hx => ?_
    · have := Q.ne k hk; omega
    · refine ((Q.its x hx).fr hf fun b hb e => ?_).mono fun b hb => ?_
      · have := hb.1; omega
      · have := hb.1; omega
  · rw [hRe]
    refine (hs3.fr hset fun b hb e => ?_).mono fun b hb => ?_
    · have : wr.heap.size ≤ b := hb; omega
    · have : wr.heap.size ≤ b := hb; omega
  · exact Q.bel.trans ((hb2.mono Q.bel.size).trans (hset.below (by have := Q.bel.size; omega) fun k hk => by omega))

set_option maxHeartbeats 2000000 in
set_option maxRecDepth 100000 in
theorem items_any (I : Nat → Prop) (t0 : Tm) (a : Option Addr) (c : Nat) (w : World) (hI : ∀ b, I b → b < w.heap.size) (ht : SlC w I t0.args a c) (hl : t0.size ≤ 1000000000) :
    Calls Tryd.prog 63 #[tmVal t0 a c] w fun e w' => Ret (fun v w' => ∃ a1 c1 a2 c2, v = .tuple #[.slice a1 (itemsF t0.size t0).1.length c1, tmVal (itemsF t0.size t0).2 a2 c2] ∧
      SlC w' (fun b => w.heap.size ≤ b) (itemsF t0.size t0).1 a1 c1 ∧ SlC w' (fun b => w.heap.size ≤ b) (itemsF t0.size t0).2.args a2 c2 ∧ Below w.heap.size w w') e w' := by
  obtain ⟨R, hR⟩ : ∃ R, R = itemsF t0.size t0 := ⟨_, rfl⟩
  rw [← hR]
  have HR := Lib.hid hR
  clear hR
  simp only [tmVal]
  go_enter Tryd.func63, Tryd.ntmps63
  go_wp2_with fail
  go_loopg [4] t0.size (fun k v wr => ∃ L t a c, ItemsRel w I t0 k v wr L t a c)
  case atStart =>
    refine ⟨[], t0, a, c, ?_⟩
    have hal : Fr (fun _ => False) w ((w.alloc (.cells #[.int .i64 t0.kind, .int .i64 t0.n, .string t0.s, .slice a t0.args.length c] 28)).alloc (.cells #[.int .i64 0, .int .i64 0, .string ⟨#[]⟩, .slice none 0 0] 28)) := (Fr.alloc _ _ _).trans (Fr.alloc _ _ _)
    exact ⟨World.ownsRow_nil _ _ _ _, fun x hx => (by simp at hx), by simp, Nat.le_refl _, by simp, heap_old' (by simp) (heap_new' rfl), ht.fr hal fun _ _ => id, heap_new' (by simp), hal.below (Nat.le_refl _) fun _ h => h.elim⟩
  case round =>
    obtain ⟨L, t, a, c, Q⟩ := hrel
    obtain ⟨va, vc, rfl⟩ := Q.stk.slice
    obtain ⟨nn, hnn⟩ : ∃ nn, nn = L.length := ⟨_, rfl⟩
    rw [← hnn]
    have hnl : nn ≤ 1000000000 := by have := Q.len; omega
    have hbox := Q.box
    have hres := Q.res
    have hrz := (Array.getElem?_eq_some_iff.1 hres).1
    have x0 := cell_of_block hbox 0 (by simp)
    simp only [List.getElem_toArray, List.getElem_cons_zero, List.getElem_cons_succ] at x0
    have f0 := frozen_of_block hbox 0
    have x1 := cell_of_block hbox 1 (by simp)
    simp only [List.getElem_toArray, List.getElem_cons_zero, List.getElem_cons_succ] at x1
    have f1 := frozen_of_block hbox 1
    have x2 := cell_of_block hbox 2 (by simp)
    simp only [List.getElem_toArray, List.getElem_cons_zero, List.getElem_cons_succ] at x2
    have f2 := frozen_of_block hbox 2
    have x3 := cell_of_block hbox 3 (by simp)
    simp only [List.getElem_toArray, List.getElem_cons_zero, List.getElem_cons_succ] at x3
    have f3 := frozen_of_block hbox 3
    by_cases hc : isCons t = true
    · obtain ⟨h1, h2, tx, ty, hargs⟩ := isCons_args hc
      obtain ⟨bb, oo, ha, hts⟩ := Q.arg.2 (by rw [hargs]; simp)
      rw [hargs] at hts
      obtain ⟨ax, px, y0, y1, y2, y3, hsx⟩ := hts.cells 0 (by simp)
      obtain ⟨ay, py, z0, z1, z2, z3, hsy⟩ := hts.cells 1 (by simp)
      simp only [List.getElem_cons_zero, List.getElem_cons_succ, Nat.zero_mul, Nat.one_mul, Nat.add_zero, Nat.add_assoc, Nat.reduceAdd] at y0 y1 y2 y3 hsx z0 z1 z2 z3 hsy
      rw [h1] at x0
      rw [ha, hargs] at x3
      simp only [List.length_cons, List.length_nil, Nat.zero_add, Nat.reduceAdd] at x3
      have hs46 : t.s = ⟨#[46]⟩ := by
        cases hts : t.s with | mk d => rw [hts] at h2; simp only at h2; congr 1; exact Array.toList_inj.1 h2
      rw [hs46] at x2
      have hbI : I bb := (TmC.iff.1 (hts.get 0 (by simp))).1
      have hbw := hI bb hbI
      have hlb := World.block_lt_of_cell? wr _ y0
      simp only at hlb
      have hsz := Q.small
      rw [Tm.size_eq, hargs] at hsz
      simp only [Tm.sizes] at hsz
      have HQ := Lib.hid (And.intro Q (And.intro hsx (And.intro hsy (And.intro hargs (And.intro hc (And.intro hts (And.intro ha hnn)))))))
      clear Q hsx hsy hargs hc hts hbox hres ha h1 h2 hs46 hnn
      go_wp2_with fail
      have hgk : gk ≤ t0.size := by have := HQ.out.1.len; omega
      have hh := own_any I tx ax px wr HQ.out.2.1 (by omega)
      simp only [tmVal] at hh
      (with_reducible refine Calls.mono hh ?_)
      clear hh
      rintro e w2 ⟨_, rfl, ⟨a3, c3, rfl, hs3⟩, hb2⟩
      have xx3 := keep_below hb2 x3
      have xx0 := keep_below hb2 x0
      have xx1 := keep_below hb2 x1
      have xx2 := keep_below hb2 x2
      have zz0 := keep_below hb2 z0
      have zz1 := keep_below hb2 z1
      have zz2 := keep_below hb2 z2
      have zz3 := keep_below hb2 z3
      have hwr : w.heap.size < wr.heap.size := by omega
      have g0 : w2.frozen? ⟨w.heap.size, 0, none⟩ = false := (hb2.frozen (p := ⟨w.heap.size, 0, none⟩) hwr).trans f0
      have g1 : w2.frozen? ⟨w.heap.size, 1, none⟩ = false := (hb2.frozen (p := ⟨w.heap.size, 1, none⟩) hwr).trans f1
      have g2 : w2.frozen? ⟨w.heap.size, 2, none⟩ = false := (hb2.frozen (p := ⟨w.heap.size, 2, none⟩) hwr).trans f2
      have g3 : w2.frozen? ⟨w.heap.size, 3, none⟩ = false := (hb2.frozen (p := ⟨w.heap.size, 3, none⟩) hwr).trans f3
      have hs2 := hb2.size
      have hlb2 : bb < w2.heap.size := by omega
      have hww2 : w.heap.size < w2.heap.size := by omega
      have hbbx : ¬ bb = w.heap.size := by omega
      obtain ⟨i0, hi0, hz0, hz1, hz2⟩ := info_parts infoTermSl
      have HOW : Hid (w2.ownsRow (w.heap.size + 2) 28 4 (.slice va nn vc) nn (L.flatMap AbI.cells4)) := by
        have h := HQ.out.1.stk
        have h5 := HQ.out.2.2.2.2.2.2.2
        have h6 := HQ.out.1.ne
        rw [← h5] at h h6
        have h7 := h.fr (M := fun b => b < wr.heap.size ∧ False) (Fr.of_below hb2) fun k _ hk => hk.2
        unfold Stk at h7
        rw [← h5] at h7
        exact h7
      have HM1 : Hid (nn + 1 ≤ maxLen) := by show nn + 1 ≤ maxLen; simp only [maxLen]; omega
      have H2 := Lib.hid (And.intro hs3 hb2)
      clear hs3 hb2 x0 x1 x2 x3 y0 y1 y2 y3 z0 z1 z2 z3 f0 f1 f2 f3
      dsimp only [Act.put, tmVal]
      go_wp2_with (at_builtin; refine wpList_append_lies _ rfl (.tmp 19) (.tmp 25) 24 rfl (w.heap.size + 2) 28 i0 _ 4 56 Tryd.underlying24 hi0 hz0 hz1 hz2 rfl (by decide) (.slice va nn vc) nn _ rfl (by exact World.ownsRow.alloc HOW.out _) ⟨w2.heap.size, 0, none⟩ 1 1 [.int .i64 tx.kind, .int .i64 tx.n, .string tx.s, .slice a3 tx.args.length c3] rfl rfl (by exact World.news_of_block (heap_alloc_new _ _)) (by simp [Value.oneCell']) (by decide) HM1.out (by omega) (by simp; omega) _ rfl ?_)
      intro g4 cap4 w4 hown4 hgrow4 hat4 hlt4
      have hnr : ∀ b, b < w.heap.size + 2 → ¬ some b = (Value.slice va nn vc).ownBlock := fun b hb e => by
        have h6 := HQ.out.1.ne b (by rw [← HQ.out.2.2.2.2.2.2.2]; exact e.symm)
        omega
      have hf4 : Fr (fun b => some b = (Value.slice va nn vc).ownBlock) w2 w4 := (Fr.alloc _ w2 _).trans (Fr.grown hgrow4 fun k hk => hk.symm)
      have x0 := hf4.cell xx0 (hnr _ (by simp))
      have x1 := hf4.cell xx1 (hnr _ (by simp))
      have x2 := hf4.cell xx2 (hnr _ (by simp))
      have x3 := hf4.cell xx3 (hnr _ (by simp))
      have z0 := hf4.cell zz0 (hnr _ (by simp only; omega))
      have z1 := hf4.cell zz1 (hnr _ (by simp only; omega))
      have z2 := hf4.cell zz2 (hnr _ (by simp only; omega))
      have z3 := hf4.cell zz3 (hnr _ (by simp only; omega))
      have hfz : ∀ o, w4.frozen? ⟨w.heap.size, o, none⟩ = w2.frozen? ⟨w.heap.size, o, none⟩ := fun o => World.frozen?_of_block (w := w2) (a := ⟨w.heap.size, o, none⟩) (hf4.block _ hww2 (hnr _ (by show w.heap.size < _; omega)))
      have f0 := (hfz 0).trans g0
      have f1 := (hfz 1).trans g1
      have f2 := (hfz 2).trans g2
      have f3 := (hfz 3).trans g3
      have hs4 := hf4.size
      have hww4 : w.heap.size < w4.heap.size := by omega
      have hlb4 : bb < w4.heap.size := by omega
      have HG := Lib.hid (And.intro hown4 (And.intro hgrow4 (And.intro hat4 (And.intro hlt4 hf4))))
      clear hown4 hgrow4 hat4 hlt4 hf4 hfz hnr xx0 xx1 xx2 xx3 zz0 zz1 zz2 zz3 g0 g1 g2 g3 hs4
      go_wp2_with fail
      go_roundg (gk - 1)
      case measure => omega
      case rel =>
        obtain ⟨Q, hsx, hsy, hargs, hc, hts, ha, hnn⟩ := HQ.out
        obtain ⟨k, rfl⟩ : ∃ k, gk = k + 1 := ⟨gk - 1, by omega⟩
        subst hnn
        exact ⟨_, _, _, _, ItemsRel.step hI Q rfl hc hargs hsy H2.out.1 H2.out.2 HG.out.1 HG.out.2.2.1 HG.out.2.2.2.2⟩
    · have hc' : isCons t = false := by simpa using hc
      have r0 := cell_of_block hres 0 (by simp)
      simp only [List.getElem_toArray, List.getElem_cons_zero, List.getElem_cons_succ] at r0
      have g0 := frozen_of_block hres 0
      have r1 := cell_of_block hres 1 (by simp)
      simp only [List.getElem_toArray, List.getElem_cons_zero, List.getElem_cons_succ] at r1
      have g1 := frozen_of_block hres 1
      have r2 := cell_of_block hres 2 (by simp)
      simp only [List.getElem_toArray, List.getElem_cons_zero, List.getElem_cons_succ] at r2
      have g2 := frozen_of_block hres 2
      have r3 := cell_of_block hres 3 (by simp)
      simp only [List.getElem_toArray, List.getElem_cons_zero, List.getElem_cons_succ] at r3
      have g3 := frozen_of_block hres 3
      have hbl := (Array.getElem?_eq_some_iff.1 hbox).1
      have hkl : t.args.length ≤ 1000000000 := by
        have h1 := Q.small
        have h2 := Q.len
        rw [Tm.size_eq] at h1
        have := Tm.length_le_flats 0 t.args
        rw [Tm.length_flats] at this
        omega
      obtain ⟨tk, htk⟩ : ∃ tk, tk = t.kind := ⟨_, rfl⟩
      obtain ⟨tsv, htsv⟩ : ∃ tsv, tsv = t.s := ⟨_, rfl⟩
      obtain ⟨tl, htl⟩ : ∃ tl, tl = t.args.length := ⟨_, rfl⟩
      have hways : (tk == 4) = false ∨ (tk = 4 ∧ (tsv.toList == [46]) = false) ∨ (tk = 4 ∧ tsv = ⟨#[46]⟩ ∧ ((tl : Int) == 2) = false) := by
        unfold isCons at hc'
        rw [← htk, ← htsv, ← htl] at hc'
        by_cases h1 : tk = 4
        · refine .inr ?_
          by_cases h2 : tsv.data.toList = [46]
          · refine .inr ⟨h1, ?_, ?_⟩
            · cases tsv with | mk d => simp only at h2; congr 1; exact Array.toList_inj.1 h2
            · subst h1
              simp only [h2, decide_true, Bool.true_and, beq_self_eq_true, beq_eq_false_iff_ne, ne_eq] at hc' ⊢
              omega
          · exact .inl ⟨h1, by rw [ByteArray.toList_eq, beq_eq_false_iff_ne]; exact h2⟩
        · exact .inl (beq_eq_false_iff_ne.2 h1)
      rw [← htk] at x0
      rw [← htsv] at x2
      rw [← htl] at x3 hkl
      have HQ := Lib.hid (And.intro Q (And.intro hc' (And.intro hnn (And.intro htk (And.intro htsv htl)))))
      clear Q hc hc' hnn htk htsv htl hbox hres
      rcases hways with h4 | ⟨rfl, h4⟩ | ⟨rfl, rfl, h4⟩
      all_goals
        go_wp2_with fail
        obtain ⟨Q, hc', hnn, htk, htsv, htl⟩ := HQ.out
        have hh := own_any I t a c wr Q.arg (by have := Q.small; have := Q.len; omega)
        simp only [tmVal] at hh
        rw [← htk, ← htsv, ← htl] at hh
        clear Q hc' hnn htk htsv htl
        (with_reducible refine Calls.mono hh ?_)
        clear hh
        rintro e w2 ⟨_, rfl, ⟨a3, c3, rfl, hs3⟩, hb2⟩
        have rr0 := keep_below hb2 r0
        have rr1 := keep_below hb2 r1
        have rr2 := keep_below hb2 r2
        have rr3 := keep_below hb2 r3
        have q0 : w2.frozen? ⟨w.heap.size + 1, 0, none⟩ = false := (hb2.frozen (p := ⟨w.heap.size + 1, 0, none⟩) hrz).trans g0
        have q1 : w2.frozen? ⟨w.heap.size + 1, 1, none⟩ = false := (hb2.frozen (p := ⟨w.heap.size + 1, 1, none⟩) hrz).trans g1
        have q2 : w2.frozen? ⟨w.heap.size + 1, 2, none⟩ = false := (hb2.frozen (p := ⟨w.heap.size + 1, 2, none⟩) hrz).trans g2
        have q3 : w2.frozen? ⟨w.heap.size + 1, 3, none⟩ = false := (hb2.frozen (p := ⟨w.heap.size + 1, 3, none⟩) hrz).trans g3
        have hs2 := hb2.size
        have H2 := Lib.hid (And.intro hs3 hb2)
        clear hs3 hb2 r0 r1 r2 r3 g0 g1 g2 g3
        dsimp only [Act.put, tmVal]
        go_wp2_with fail
        refine bodyPost_ret (v := .tuple #[.slice va nn vc, .agg #[.int .i64 t.kind, .int .i64 t.n, .string t.s, .slice a3 t.args.length c3]]) (by simp only [results, Tryd.results63]; go_simp) rfl ?_
        obtain ⟨Q, hc', hnn, htk, htsv, htl⟩ := HQ.out
        subst hnn
        have hRe : R = (L.map (·.t), t) := by rw [HR.out, Q.spec, itemsF_none hc']; simp
        refine ⟨_, rfl, va, vc, a3, c3, ?_, (ItemsRel.done Q hc' HR.out H2.out.1 H2.out.2 ?_).2⟩
        · rw [hRe]
          simp only [List.length_map]
        · exact (((Fr.set1 w2 _ _ _).trans (Fr.set1 _ _ _ _)).trans (Fr.set1 _ _ _ _)).trans (Fr.set1 _ _ _ _)
end Go.Proofs.YtkjkckdjenjgdaaDoor
