/- The walks over prolixref03's Cons and Items. -/
import Derived.Test.YtkjkckdjenjgdaaDoorItems2
import Derived.WalkLawsBesides
import Derived.WalkSpells
import Derived.Deep.AppendLies
namespace Go.Proofs.YtkjkckdjenjgdaaDoor
open Go Go.RowKit

/-- Why a term is no list's part. -/
theorem notCons {t : Tm} (h : isCons t = false) : (t.kind == 4) = false ∨ (t.kind = 4 ∧ (t.s.toList == [46]) = false) ∨ (t.kind = 4 ∧ t.s = ⟨#[46]⟩ ∧ ((t.args.length : Int) == 2) = false) := by
  unfold isCons at h
  by_cases h1 : t.kind = 4
  · refine .inr ?_
    by_cases h2 : t.s.data.toList = [46]
    · refine .inr ⟨h1, ?_, ?_⟩
      · cases hs : t.s with | mk d => rw [hs] at h2; simp only at h2; congr 1; exact Array.toList_inj.1 h2
      · rw [h1] at h
        simp only [h2, decide_true, Bool.true_and, beq_self_eq_true, beq_eq_false_iff_ne, ne_eq] at h ⊢
        omega
    · exact .inl ⟨h1, by rw [ByteArray.toList_eq, beq_eq_false_iff_ne]; exact h2⟩
  · exact .inl (beq_eq_false_iff_ne.2 h1)
theorem isCons_parts {t : Tm} (h : isCons t = true) : t.kind = 4 ∧ t.s = ⟨#[46]⟩ ∧ t.args.length = 2 := by
  obtain ⟨h1, h2, x, y, h3⟩ := isCons_args h
  refine ⟨h1, ?_, by rw [h3]; rfl⟩
  cases hs : t.s with | mk d => rw [hs] at h2; simp only at h2; congr 1; exact Array.toList_inj.1 h2

theorem cons_any (t : Tm) (a : Option Addr) (c : Nat) (w : World) (hl : t.args.length ≤ 1000000000) :
    Calls Tryd.prog 32 #[tmVal t a c] w fun e w' => e = .returned (.bool (isCons t)) ∧ Below w.heap.size w w' := by
  simp only [tmVal]
  obtain ⟨tk, htk⟩ : ∃ tk, tk = t.kind := ⟨_, rfl⟩
  obtain ⟨tsv, htsv⟩ : ∃ tsv, tsv = t.s := ⟨_, rfl⟩
  obtain ⟨tl, htl⟩ : ∃ tl, tl = t.args.length := ⟨_, rfl⟩
  rw [← htk, ← htsv, ← htl]
  rw [← htl] at hl
  rcases Bool.eq_false_or_eq_true (isCons t) with hc | hc
  · obtain ⟨h1, h2, h3⟩ := isCons_parts hc
    rw [hc]
    rw [← htk] at h1
    rw [← htsv] at h2
    rw [← htl] at h3
    clear htk htsv htl hc
    subst h1 h2 h3
    go_enter Tryd.func32, Tryd.ntmps32
    go_wp2_with fail
    go_ret
    exact ⟨rfl, (Below.refl _ _).alloc (Nat.le_refl _) _⟩
  · have hn := notCons hc
    rw [hc]
    rw [← htk, ← htsv, ← htl] at hn
    clear htk htsv htl hc
    rcases hn with h | ⟨rfl, h⟩ | ⟨rfl, rfl, h⟩
    all_goals
      go_enter Tryd.func32, Tryd.ntmps32
      go_wp2_with fail
      go_ret
      exact ⟨rfl, (Below.refl _ _).alloc (Nat.le_refl _) _⟩

structure RItemsRel (w : World) (I : Nat → Prop) (t0 : Tm) (k : Nat) (v : Value) (wr : World) (L : List AbI) (t : Tm) (a : Option Addr) (c : Nat) : Prop where
  stk : Stk wr (w.heap.size + 2) 28 4 AbI.cells4 v L
  its : ∀ x ∈ L, SlC wr I x.t.args x.a x.c
  spec : itemsF t0.size t0 = (L.map (·.t) ++ (itemsF k t).1, (itemsF k t).2)
  small : t.size ≤ k
  len : L.length + k = t0.size
  box : wr.heap[w.heap.size]? = some (.cells #[.int .i64 t.kind, .int .i64 t.n, .string t.s, .slice a t.args.length c] 28 (0, 0))
  arg : SlC wr I t.args a c
  res : wr.heap[w.heap.size + 1]? = some (.cells #[.int .i64 0, .int .i64 0, .string ⟨#[]⟩, .slice none 0 0] 28 (0, 0))
  bel : Below w.heap.size w wr
theorem RItemsRel.ne {w wr : World} {I : Nat → Prop} {t0 t : Tm} {k : Nat} {v : Value} {L : List AbI} {a : Option Addr} {c : Nat} (Q : RItemsRel w I t0 k v wr L t a c) : ∀ b, v.ownBlock = some b → w.heap.size + 2 ≤ b := fun b hb => (Q.stk.lt b hb).1
theorem RItemsRel.step {w wr w2 w4 : World} {I : Nat → Prop} {t0 t tx ty : Tm} {k nn g4 cap4 : Nat} {v : Value} {L : List AbI} {a a3 ay : Option Addr} {c c3 py : Nat} (hI : ∀ b, I b → b < w.heap.size)
    (Q : RItemsRel w I t0 (k + 1) v wr L t a c) (hnn : nn = L.length) (hc : isCons t = true) (hargs : t.args = [tx, ty]) (hsy : SlC wr I ty.args ay py) (hsx : SlC wr I tx.args a3 c3) (hb2 : Below wr.heap.size wr w2)
    (hown : w4.ownsRow (w.heap.size + 2) 28 4 (.slice (some ⟨g4, 0, none⟩) (nn + 1) cap4) (nn + 1) (L.flatMap AbI.cells4 ++ [.int .i64 tx.kind, .int .i64 tx.n, .string tx.s, .slice a3 tx.args.length c3]))
    (hat : v.ownBlock = some g4 ∨ g4 = w2.heap.size + 1) (hf4 : Fr (fun b => some b = v.ownBlock) w2 w4) :
    RItemsRel w I t0 k (.slice (some ⟨g4, 0, none⟩) (nn + 1) cap4) ((((w4.setCell ⟨w.heap.size, 0, none⟩ (.int .i64 ty.kind)).setCell ⟨w.heap.size, 1, none⟩ (.int .i64 ty.n)).setCell ⟨w.heap.size, 2, none⟩ (.string ty.s)).setCell ⟨w.heap.size, 3, none⟩ (.slice ay ty.args.length py)) (L ++ [⟨tx, a3, c3, 0⟩]) ty ay py := by
  obtain ⟨X, hX⟩ : ∃ X, X = ((((w4.setCell ⟨w.heap.size, 0, none⟩ (.int .i64 ty.kind)).setCell ⟨w.heap.size, 1, none⟩ (.int .i64 ty.n)).setCell ⟨w.heap.size, 2, none⟩ (.string ty.s)).setCell ⟨w.heap.size, 3, none⟩ (.slice ay ty.args.length py)) := ⟨_, rfl⟩
  have hset : Fr (· = w.heap.size) w4 X := hX ▸ (((Fr.set1 _ _ _ _).trans (Fr.set1 _ _ _ _)).trans (Fr.set1 _ _ _ _)).trans (Fr.set1 _ _ _ _)
  have hbz := (Array.getElem?_eq_some_iff.1 Q.box).1
  have hrz := (Array.getElem?_eq_some_iff.1 Q.res).1
  have hnr : ∀ b, b < w.heap.size + 2 → ¬ some b = v.ownBlock := fun b hb e => by have := Q.ne b e.symm; omega
  have hs2 := hb2.size
  have hg4 : w.heap.size + 2 ≤ g4 := by
    rcases hat with h | h
    · exact Q.ne _ h
    · omega
  have hf24 : Fr (fun b => some b = v.ownBlock) wr w4 := (Fr.of_below hb2).trans hf4
  have hfx : Fr (fun b => some b = v.ownBlock ∨ b = w.heap.size) wr X := (hf24.mono fun _ h => .inl h).trans (hset.mono fun _ h => .inr h)
  have hIx : ∀ b, I b → ¬ (some b = v.ownBlock ∨ b = w.heap.size) := fun b hb e => by
    have := hI b hb
    rcases e with e | e
    · exact hnr b (by omega) e
    · omega
  have hXB : X.heap[w.heap.size]? = some (.cells #[.int .i64 ty.kind, .int .i64 ty.n, .string ty.s, .slice ay ty.args.length py] 28 (0, 0)) := by
    rw [hX]
    have := heap_set (i := 3) (v := .slice ay ty.args.length py) (heap_set (i := 2) (v := .string ty.s) (heap_set (i := 1) (v := .int .i64 ty.n) (heap_set (i := 0) (v := .int .i64 ty.kind) ((hf24.block _ hbz (hnr _ (by omega))).trans Q.box))))
    simpa using this
  rw [← hX]
  have hsz := Q.small
  rw [Tm.size_eq, hargs] at hsz
  simp only [Tm.sizes] at hsz
  subst hnn
  refine ⟨?_, ?_, ?_, by omega, by have := Q.len; simp only [List.length_append, List.length_cons, List.length_nil]; omega, hXB, hsy.fr hfx hIx, ?_, ?_⟩
  · refine Stk.fr (Stk.push (x := (⟨tx, a3, c3, 0⟩ : AbI)) hown) hset fun k hk e => ?_
    simp only [Value.ownBlock, Option.some.injEq] at hk
    omega
  · intro x hx
    rcases List.mem_append.1 hx with hx | hx
    · exact (Q.its x hx).fr hfx hIx
    · simp only [List.mem_singleton] at hx
      subst hx
      exact hsx.fr hfx hIx
  · rw [Q.spec, itemsF_cons hc hargs]
    simp
  · rw [hset.block _ (by have := hf24.size; omega) (by omega), hf24.block _ hrz (hnr _ (by omega))]
    exact Q.res
  · exact Q.bel.trans (hfx.below Q.bel.size fun k hk => by
      rcases hk with e | e
      · have := Q.ne k e.symm; omega
      · omega)

set_option maxHeartbeats 2000000 in
set_option maxRecDepth 100000 in
theorem ritems_any (I : Nat → Prop) (t0 : Tm) (a : Option Addr) (c : Nat) (w : World) (hI : ∀ b, I b → b < w.heap.size) (ht : SlC w I t0.args a c) (hl : t0.size ≤ 1000000000) :
    Calls Tryd.prog 18 #[tmVal t0 a c] w fun e w' => Ret (fun v w' => ∃ a1 c1 a2 c2, v = .tuple #[.slice a1 (itemsF t0.size t0).1.length c1, tmVal (itemsF t0.size t0).2 a2 c2] ∧
      SlC w' (fun b => I b ∨ w.heap.size ≤ b) (itemsF t0.size t0).1 a1 c1 ∧ SlC w' I (itemsF t0.size t0).2.args a2 c2 ∧ Below w.heap.size w w') e w' := by
  obtain ⟨R, hR⟩ : ∃ R, R = itemsF t0.size t0 := ⟨_, rfl⟩
  rw [← hR]
  have HR := Lib.hid hR
  clear hR
  simp only [tmVal]
  go_enter Tryd.func18, Tryd.ntmps18
  go_wp2_with fail
  go_loopg [4] t0.size (fun k v wr => ∃ L t a c, RItemsRel w I t0 k v wr L t a c)
  case atStart =>
    refine ⟨[], t0, a, c, ?_⟩
    have hal : Fr (fun _ => False) w ((w.alloc (.cells #[.int .i64 t0.kind, .int .i64 t0.n, .string t0.s, .slice a t0.args.length c] 28)).alloc (.cells #[.int .i64 0, .int .i64 0, .string ⟨#[]⟩, .slice none 0 0] 28)) := (Fr.alloc _ _ _).trans (Fr.alloc _ _ _)
    exact ⟨World.ownsRow_nil _ _ _ _, fun x hx => (by simp at hx), by simp, Nat.le_refl _, by simp, heap_old' (by simp) (heap_new' rfl), ht.fr hal fun _ _ => id, heap_new' (by simp), hal.below (Nat.le_refl _) fun _ h => h.elim⟩
  case round =>
    obtain ⟨L, t, a, c, Q⟩ := hrel
    obtain ⟨va, vc, rfl⟩ := Q.stk.slice
    obtain ⟨nn, hnn⟩ : ∃ nn, nn = L.length := ⟨_, rfl⟩
    rw [← hnn]
    have hnl : nn ≤ 1000000000 := by have := Q.len; omega
    have hkl : t.args.length ≤ 1000000000 := by
      have h1 := Q.small
      have h2 := Q.len
      rw [Tm.size_eq] at h1
      have := Tm.length_le_flats 0 t.args
      rw [Tm.length_flats] at this
      omega
    have hbox := Q.box
    have hres := Q.res
    have hrz := (Array.getElem?_eq_some_iff.1 hres).1
    have x0 := cell_of_block hbox 0 (by simp)
    simp only [List.getElem_toArray, List.getElem_cons_zero, List.getElem_cons_succ] at x0
    have f0 := frozen_of_block hbox 0
    have x1 := cell_of_block hbox 1 (by simp)
    simp only [List.getElem_toArray, List.getElem_cons_zero, List.getElem_cons_succ] at x1
    have f1 := frozen_of_block hbox 1
    have x2 := cell_of_block hbox 2 (by simp)
    simp only [List.getElem_toArray, List.getElem_cons_zero, List.getElem_cons_succ] at x2
    have f2 := frozen_of_block hbox 2
    have x3 := cell_of_block hbox 3 (by simp)
    simp only [List.getElem_toArray, List.getElem_cons_zero, List.getElem_cons_succ] at x3
    have f3 := frozen_of_block hbox 3
    have HQ := Lib.hid (And.intro Q (And.intro hnn (And.intro hbox (And.intro hres hkl))))
    clear Q hnn hbox hres
    go_wp2_with fail
    refine (cons_any t a c _ hkl).mono ?_
    rintro e w2 ⟨rfl, hb2⟩
    have hs2 := hb2.size
    have hww2 : w.heap.size < w2.heap.size := by omega
    have hww3 : w.heap.size + 1 < w2.heap.size := by omega
    have xx0 := keep_below hb2 x0
    have xx1 := keep_below hb2 x1
    have xx2 := keep_below hb2 x2
    have xx3 := keep_below hb2 x3
    clear hkl
    rcases Bool.eq_false_or_eq_true (isCons t) with hc | hc
    · rw [hc]
      obtain ⟨Q, hnn, hbox, hres, hkl⟩ := HQ.out
      obtain ⟨h1, h2, tx, ty, hargs⟩ := isCons_args hc
      obtain ⟨bb, oo, ha, hts⟩ := Q.arg.2 (by rw [hargs]; simp)
      rw [hargs] at hts
      obtain ⟨ax, px, y0, y1, y2, y3, hsx⟩ := hts.cells 0 (by simp)
      obtain ⟨ay, py, z0, z1, z2, z3, hsy⟩ := hts.cells 1 (by simp)
      simp only [List.getElem_cons_zero, List.getElem_cons_succ, Nat.zero_mul, Nat.one_mul, Nat.add_zero, Nat.add_assoc, Nat.reduceAdd] at y0 y1 y2 y3 hsx z0 z1 z2 z3 hsy
      rw [ha, hargs] at xx3
      simp only [List.length_cons, List.length_nil, Nat.zero_add, Nat.reduceAdd] at xx3
      have yy0 := keep_below hb2 y0
      have yy1 := keep_below hb2 y1
      have yy2 := keep_below hb2 y2
      have yy3 := keep_below hb2 y3
      have zz0 := keep_below hb2 z0
      have zz1 := keep_below hb2 z1
      have zz2 := keep_below hb2 z2
      have zz3 := keep_below hb2 z3
      have hbI : I bb := (TmC.iff.1 (hts.get 0 (by simp))).1
      have hbw := hI bb hbI
      have hbbx : ¬ bb = w.heap.size := by omega
      have hbbx2 : bb < w2.heap.size := by omega
      have hsz := Q.small
      rw [Tm.size_eq, hargs] at hsz
      simp only [Tm.sizes] at hsz
      have hgk : 1 ≤ gk := by omega
      obtain ⟨i0, hi0, hz0, hz1, hz2⟩ := info_parts infoTermSl
      have HOW : Hid (w2.ownsRow (w.heap.size + 2) 28 4 (.slice va nn vc) nn (L.flatMap AbI.cells4)) := by
        have h := Q.stk
        have h6 := Q.ne
        rw [← hnn] at h h6
        have h7 := h.fr (M := fun b => b < wr.heap.size ∧ False) (Fr.of_below hb2) fun k _ hk => hk.2
        unfold Stk at h7
        rw [← hnn] at h7
        exact h7
      have HM1 : Hid (nn + 1 ≤ maxLen) := by show nn + 1 ≤ maxLen; simp only [maxLen]; omega
      have hnr : ∀ b, b < w.heap.size + 2 → ¬ some b = (Value.slice va nn vc).ownBlock := fun b hb e => by
        have h6 := Q.ne b (by rw [← hnn]; exact e.symm)
        omega
      have g0 : w2.frozen? ⟨w.heap.size, 0, none⟩ = false := (hb2.frozen (p := ⟨w.heap.size, 0, none⟩) (by show w.heap.size < _; omega)).trans f0
      have g1 : w2.frozen? ⟨w.heap.size, 1, none⟩ = false := (hb2.frozen (p := ⟨w.heap.size, 1, none⟩) (by show w.heap.size < _; omega)).trans f1
      have g2 : w2.frozen? ⟨w.heap.size, 2, none⟩ = false := (hb2.frozen (p := ⟨w.heap.size, 2, none⟩) (by show w.heap.size < _; omega)).trans f2
      have g3 : w2.frozen? ⟨w.heap.size, 3, none⟩ = false := (hb2.frozen (p := ⟨w.heap.size, 3, none⟩) (by show w.heap.size < _; omega)).trans f3
      have H2 := Lib.hid (And.intro hb2 (And.intro hc (And.intro hargs (And.intro hsx (And.intro hsy hnr)))))
      clear Q hnn hbox hres hkl h1 h2 hargs ha hts hsx hsy y0 y1 y2 y3 z0 z1 z2 z3 hc hb2 hsz hnr x0 x1 x2 x3 f0 f1 f2 f3
      dsimp only [Act.put]
      go_wp2_with (at_builtin; refine wpList_append_lies _ rfl (.tmp 7) (.tmp 12) 24 rfl (w.heap.size + 2) 28 i0 _ 4 56 Tryd.underlying24 hi0 hz0 hz1 hz2 rfl (by decide) (.slice va nn vc) nn _ rfl (by exact World.ownsRow.alloc HOW.out _) ⟨w2.heap.size, 0, none⟩ 1 1 [.int .i64 tx.kind, .int .i64 tx.n, .string tx.s, .slice ax tx.args.length px] rfl rfl (by exact World.news_of_block (heap_alloc_new _ _)) (by simp [Value.oneCell']) (by decide) HM1.out (by omega) (by simp; omega) _ rfl ?_)
      intro g4 cap4 w4 hown4 hgrow4 hat4 hlt4
      have hnr := H2.out.2.2.2.2.2
      have hf4 : Fr (fun b => some b = (Value.slice va nn vc).ownBlock) w2 w4 := (Fr.alloc _ w2 _).trans (Fr.grown hgrow4 fun k hk => hk.symm)
      have x0 := hf4.cell xx0 (hnr _ (by simp))
      have x1 := hf4.cell xx1 (hnr _ (by simp))
      have x2 := hf4.cell xx2 (hnr _ (by simp))
      have x3 := hf4.cell xx3 (hnr _ (by simp))
      have z0 := hf4.cell zz0 (hnr _ (by simp only; omega))
      have z1 := hf4.cell zz1 (hnr _ (by simp only; omega))
      have z2 := hf4.cell zz2 (hnr _ (by simp only; omega))
      have z3 := hf4.cell zz3 (hnr _ (by simp only; omega))
      have hfz : ∀ o, w4.frozen? ⟨w.heap.size, o, none⟩ = w2.frozen? ⟨w.heap.size, o, none⟩ := fun o => World.frozen?_of_block (w := w2) (a := ⟨w.heap.size, o, none⟩) (hf4.block _ hww2 (hnr _ (by show w.heap.size < _; omega)))
      have f0 := (hfz 0).trans g0
      have f1 := (hfz 1).trans g1
      have f2 := (hfz 2).trans g2
      have f3 := (hfz 3).trans g3
      have hs4 := hf4.size
      have hww4 : w.heap.size < w4.heap.size := by omega
      have hlb4 : bb < w4.heap.size := by omega
      have HG := Lib.hid (And.intro hown4 (And.intro hgrow4 (And.intro hat4 (And.intro hlt4 hf4))))
      clear hown4 hgrow4 hat4 hlt4 hf4 hfz hnr xx0 xx1 xx2 xx3 yy0 yy1 yy2 yy3 zz0 zz1 zz2 zz3 g0 g1 g2 g3 hs4
      go_wp2_with fail
      go_roundg (gk - 1)
      case measure => omega
      case rel =>
        obtain ⟨Q, hnn, _, _, _⟩ := HQ.out
        obtain ⟨hb2, hc, hargs, hsx, hsy, _⟩ := H2.out
        obtain ⟨k, rfl⟩ : ∃ k, gk = k + 1 := ⟨gk - 1, by omega⟩
        subst hnn
        exact ⟨_, _, _, _, RItemsRel.step hI Q rfl hc hargs hsy hsx hb2 HG.out.1 HG.out.2.2.1 HG.out.2.2.2.2⟩
    · rw [hc]
      obtain ⟨Q, hnn, hbox, hres, hkl⟩ := HQ.out
      have hres2 : w2.heap[w.heap.size + 1]? = some (.cells #[.int .i64 0, .int .i64 0, .string ⟨#[]⟩, .slice none 0 0] 28 (0, 0)) := (hb2.block _ hrz).trans hres
      have r0 := cell_of_block hres2 0 (by simp)
      simp only [List.getElem_toArray, List.getElem_cons_zero, List.getElem_cons_succ] at r0
      have g0 := frozen_of_block hres2 0
      have r1 := cell_of_block hres2 1 (by simp)
      simp only [List.getElem_toArray, List.getElem_cons_zero, List.getElem_cons_succ] at r1
      have g1 := frozen_of_block hres2 1
      have r2 := cell_of_block hres2 2 (by simp)
      simp only [List.getElem_toArray, List.getElem_cons_zero, List.getElem_cons_succ] at r2
      have g2 := frozen_of_block hres2 2
      have r3 := cell_of_block hres2 3 (by simp)
      simp only [List.getElem_toArray, List.getElem_cons_zero, List.getElem_cons_succ] at r3
      have g3 := frozen_of_block hres2 3
      have H2 := Lib.hid (And.intro hb2 hc)
      clear Q hnn hbox hres hkl hres2 hb2 hc x0 x1 x2 x3 f0 f1 f2 f3
      dsimp only [Act.put]
      go_wp2_with fail
      go_region
      all_goals
        go_wp2_with fail
        refine bodyPost_ret (v := .tuple #[.slice va nn vc, .agg #[.int .i64 t.kind, .int .i64 t.n, .string t.s, .slice a t.args.length c]]) (by simp only [results, Tryd.results18]; go_simp) rfl ?_
        obtain ⟨Q, hnn, _, _, _⟩ := HQ.out
        obtain ⟨hb2, hc⟩ := H2.out
        subst hnn
        have hRe : R = (L.map (·.t), t) := by rw [HR.out, Q.spec, itemsF_none hc]; simp
        have hset : Fr (· = w.heap.size + 1) w2 (((((w2.setCell ⟨w.heap.size + 1, 0, none⟩ (.int .i64 t.kind)).setCell ⟨w.heap.size + 1, 1, none⟩ (.int .i64 t.n)).setCell ⟨w.heap.size + 1, 2, none⟩ (.string t.s)).setCell ⟨w.heap.size + 1, 3, none⟩ (.slice a t.args.length c)).drew) := ((((Fr.set1 _ _ _ _).trans (Fr.set1 _ _ _ _)).trans (Fr.set1 _ _ _ _)).trans (Fr.set1 _ _ _ _)).trans (Fr.drew _ _)
        have hf := (Fr.of_below (M := (· = w.heap.size + 1)) hb2).trans hset
        refine ⟨_, rfl, va, vc, a, c, by rw [hRe]; simp only [List.length_map], ?_, ?_, Q.bel.trans (hf.below Q.bel.size fun k hk => by omega)⟩
        · rw [hRe]
          refine SlC.of_stk (base := w.heap.size + 2) (Stk.fr Q.stk hf fun k hk e => ?_) (fun b hb => .inr (by omega)) fun x hx => ?_
          · have := Q.ne k hk; omega
          · exact ((Q.its x hx).fr hf fun b hb e => by have := hI b hb; omega).mono fun b hb => .inl hb
        · rw [hRe]
          exact Q.arg.fr hf fun b hb e => by have := hI b hb; omega
end Go.Proofs.YtkjkckdjenjgdaaDoor
