/- What the walk over term.rename keeps: plain laws. -/
import Derived.Test.YtkjkckdjenjgdaaDoorProg
import Derived.Test.YtkjkckdjenjgdaaDoorLib2
import Derived.Deep.QuietTactic
import Derived.BigQuiet
import Derived.WalkLawsBesides
import Derived.WalkSpells
import Derived.Deep.RegionLaw
import Derived.Deep.AppendLies
namespace Go.Proofs.YtkjkckdjenjgdaaDoor
open Go Go.RowKit

/-- A numbering: what it keeps in which blocks, with so much left to do. -/
structure Numb (σ : Type) where
  num : σ → Int → Int × σ
  inv : Nat → σ → (Nat → Prop) → World → Prop
  lt : ∀ k st M w, inv k st M w → ∀ b, M b → b < w.heap.size
  stab : ∀ k st M w w', inv k st M w → (∀ b, M b → w'.heap[b]? = w.heap[b]?) → inv k st M w'
  less : ∀ k st M w, inv (k + 1) st M w → inv k st M w
def Numb.ok {σ : Type} (V : Numb σ) (f : FuncId) (first : Array Value) : Prop :=
  ∀ k st M w n, V.inv (k + 1) st M w →
    Calls Tryd.prog f (first ++ #[.int .i64 n]) w fun e w' => e = .returned (.int .i64 (V.num st n).1) ∧ ∃ M', V.inv k (V.num st n).2 M' w' ∧ (∀ b, M' b → M b ∨ w.heap.size ≤ b) ∧ Fr M w w'

/-- The outer loop's relation. -/
structure RenRel {σ : Type} (V : Numb σ) (I : Nat → Prop) (M : Nat → Prop) (w0 : World) (R : Tm) (fin : σ) (lim : Nat) (k : Nat) (v : Value) (wr : World) (L : List PtI) (st : σ) (M' T : Nat → Prop) : Prop where
  stk : Stk wr w0.heap.size 106 1 PtI.cells v L
  lies : ∀ x ∈ L, x.lies wr ∧ SlC wr I x.t.args x.a x.c ∧ T x.b
  disj : L.Pairwise PtI.apart
  hole : Hole T wr L.reverse (rens V.num (L.reverse.map (·.t)) st).1 R w0.heap.size
  fin : (rens V.num (L.reverse.map (·.t)) st).2 = fin
  inv : V.inv k st M' wr
  left : Tm.sizes (L.map (·.t)) = k
  small : k ≤ lim
  tree : ∀ b, T b → w0.heap.size ≤ b ∧ b < wr.heap.size ∧ ¬ M' b ∧ v.ownBlock ≠ some b ∧ ∀ o, wr.frozen? ⟨b, o, none⟩ = false
  own : ∀ b, M' b → M b ∨ w0.heap.size ≤ b
  fr : Fr M w0 wr
  apart : ∀ b, v.ownBlock = some b → ¬ M' b
  res : wr.heap[w0.heap.size + 1]? = some (.cells #[.int .i64 0, .int .i64 0, .string ⟨#[]⟩, .slice none 0 0] 28 (0, 0))
  resOff : ¬ M' (w0.heap.size + 1) ∧ ¬ T (w0.heap.size + 1) ∧ v.ownBlock ≠ some (w0.heap.size + 1)

theorem sizes_append (xs ys : List Tm) : Tm.sizes (xs ++ ys) = Tm.sizes xs + Tm.sizes ys := by
  induction xs with
  | nil => simp [Tm.sizes]
  | cons t ts ih => simp only [List.cons_append, Tm.sizes, ih]; omega
theorem sizes_reverse (xs : List Tm) : Tm.sizes xs.reverse = Tm.sizes xs := by
  induction xs with
  | nil => rfl
  | cons t ts ih => rw [List.reverse_cons, sizes_append, ih]; simp only [Tm.sizes]; omega

theorem RenRel.next {σ : Type} {V : Numb σ} {I M : Nat → Prop} {w0 : World} {R0 : Tm} {fin : σ} {lim k : Nat} {v v' : Value} {wr w' : World} {L0 kids : List PtI} {x : PtI} {st st1 : σ} {M' M1 T : Nat → Prop} {n' : Int} {a' : Option Addr} {c' g : Nat}
    (R : RenRel V I M w0 R0 fin lim (k + 1 + Tm.sizes x.t.args) v wr (L0 ++ [x]) st M' T) (hI : ∀ b, I b → b < w0.heap.size) (hIM : ∀ b, I b → ¬ M b)
    (hnum : (if x.t.kind = 1 then V.num st x.t.n else (x.t.n, st)) = (n', st1))
    (hstk : Stk w' w0.heap.size 106 1 PtI.cells v' (L0 ++ kids.reverse))
    (hkt : kids.map (·.t) = x.t.args) (hkp : ∀ (i : Nat) (y : PtI), kids[i]? = some y → y.b = g ∧ y.o = i * 4) (hkl : ∀ y ∈ kids, y.lies w' ∧ SlC w' I y.t.args y.a y.c)
    (hp : (PtI.mk x.b x.o (.mk x.t.kind n' x.t.s x.t.args) a' c').lies w') (hc' : x.t.args.length ≤ c') (ha' : 0 < x.t.args.length → a' = some ⟨g, 0, none⟩ ∧ wr.heap.size ≤ g ∧ g < w'.heap.size ∧ ¬ M1 g ∧ v'.ownBlock ≠ some g ∧ ∀ o, w'.frozen? ⟨g, o, none⟩ = false)
    (hfr : Fr (fun b => M' b ∨ b = x.b ∨ v.ownBlock = some b) wr w')
    (hxb : ∀ o u, wr.cell? ⟨x.b, o, none⟩ = some u → ¬ (x.o ≤ o ∧ o < x.o + 4) → w'.cell? ⟨x.b, o, none⟩ = some u) (hxf : ∀ o, w'.frozen? ⟨x.b, o, none⟩ = false)
    (hinv : V.inv (k + Tm.sizes x.t.args) st1 M1 w') (hM1 : ∀ b, M1 b → M' b ∨ wr.heap.size ≤ b)
    (hv' : ∀ b, v'.ownBlock = some b → (v.ownBlock = some b ∨ wr.heap.size ≤ b) ∧ ¬ M1 b) :
    ∃ T', RenRel V I M w0 R0 fin lim (k + Tm.sizes x.t.args) v' w' (L0 ++ kids.reverse) st1 M1 T' := by
  have hs := hfr.size
  have hlt := V.lt
  have hxT := (R.lies x (by simp)).2.2
  have htx := R.tree x.b hxT
  have hrb := (Array.getElem?_eq_some_iff.1 R.res).1
  have hrev : (L0 ++ [x]).reverse = x :: L0.reverse := by simp
  have hrev' : (L0 ++ kids.reverse).reverse = kids ++ L0.reverse := by simp
  have hole := R.hole
  have hfin := R.fin
  rw [hrev] at hole hfin
  have ex : x.t = .mk x.t.kind x.t.n x.t.s x.t.args := (Tm.eta x.t).symm
  have er : ren V.num x.t st = (.mk x.t.kind n' x.t.s (rens V.num x.t.args st1).1, (rens V.num x.t.args st1).2) := by
    conv => lhs; rw [ex]
    simp only [ren, hnum]
  simp only [List.map_cons, rens, er] at hole hfin
  have hdis := R.disj
  rw [List.pairwise_append] at hdis
  obtain ⟨hd1, _, hd2⟩ := hdis
  have hap : ∀ q ∈ L0.reverse, x.apart q := fun q hq b o h1 h2 => hd2 q (List.mem_reverse.1 hq) x (by simp) b o h2 h1
  have hTblk : ∀ b, T b → b ≠ x.b → w'.heap[b]? = wr.heap[b]? := fun b hb hne => by
    obtain ⟨_, h2, h3, h4, _⟩ := R.tree b hb
    exact hfr.block b h2 fun h => by rcases h with h | h | h; exact h3 h; exact hne h; exact h4 h
  have hIblk : ∀ b, I b → b < wr.heap.size → w'.heap[b]? = wr.heap[b]? := fun b hb h2 => hfr.block b h2 fun h => by
    have hb0 := hI b hb
    rcases h with h | h | h
    · rcases R.own b h with h | h
      · exact hIM b hb h
      · omega
    · omega
    · have := (R.stk.lt b h).1; omega
  have hstep := Hole.step (w' := w') (g := g) (kids := kids) (a' := a') (c' := c') hole hxT hap (fun b o u hb hu hno => by
      by_cases hbx : b = x.b
      · subst hbx
        exact hxb o u hu fun h => hno ⟨rfl, h.1, h.2⟩
      · exact (World.cell?_of_block (w := wr) (hTblk b hb hbx)).trans hu)
    (by have := hp; refine ⟨this.c0, this.c1, this.c2, ?_⟩; have := this.c3; simp only [Tm.args, rens_length] at this ⊢; exact this) (by rw [rens_length]; exact hc')
    (by rw [rens_length]; intro h0; exact ⟨(ha' h0).1, fun hT => by have := (R.tree g hT).2.1; have := (ha' h0).2.1; omega⟩) (by rw [rens_length, ← hkt, List.length_map]) hkp
  rw [rens_length] at hstep
  refine ⟨fun b => T b ∨ b = g ∧ 0 < x.t.args.length, hstk, ?_, ?_, ?_, ?_, hinv, ?_, ?_, ?_, ?_, ?_, ?_, ?_, ?_⟩
  · intro y hy
    rcases List.mem_append.1 hy with hy | hy
    · obtain ⟨h1, h2, h3⟩ := R.lies y (by simp [hy])
      refine ⟨?_, h2.keep hIblk, .inl h3⟩
      have hc : ∀ o u, y.has y.b o → wr.cell? ⟨y.b, o, none⟩ = some u → w'.cell? ⟨y.b, o, none⟩ = some u := fun o u ho hu => by
        by_cases hbx : y.b = x.b
        · rw [hbx] at hu ⊢
          exact hxb o u hu fun h => hd2 y hy x (by simp) y.b o ho ⟨hbx.symm, h.1, h.2⟩
        · exact (World.cell?_of_block (w := wr) (hTblk y.b h3 hbx)).trans hu
      exact ⟨hc _ _ ⟨rfl, by omega, by omega⟩ h1.c0, hc _ _ ⟨rfl, by omega, by omega⟩ h1.c1, hc _ _ ⟨rfl, by omega, by omega⟩ h1.c2, hc _ _ ⟨rfl, by omega, by omega⟩ h1.c3⟩
    · obtain ⟨h1, h2⟩ := hkl y (List.mem_reverse.1 hy)
      obtain ⟨i, hi⟩ := List.getElem?_of_mem (List.mem_reverse.1 hy)
      have h3 := (List.getElem?_eq_some_iff.1 hi).1
      have hkl' : kids.length = x.t.args.length := by rw [← hkt, List.length_map]
      exact ⟨h1, h2, .inr ⟨(hkp i y hi).1, by omega⟩⟩
  · rw [List.pairwise_append]
    refine ⟨hd1, ?_, ?_⟩
    · rw [List.pairwise_reverse, List.pairwise_iff_getElem]
      intro i j hi hj hij b o h1 h2
      have e1 := hkp i kids[i] (by simp)
      have e2 := hkp j kids[j] (by simp)
      have g1 := h1.2
      have g2 := h2.2
      omega
    · intro y hy z hz b o h1 h2
      obtain ⟨i, hi⟩ := List.getElem?_of_mem (List.mem_reverse.1 hz)
      have hkl' : kids.length = x.t.args.length := by rw [← hkt, List.length_map]
      have h3 := (List.getElem?_eq_some_iff.1 hi).1
      have hyT := (R.tree y.b (R.lies y (by simp [hy])).2.2).2.1
      have := (hkp i z hi).1
      have := (ha' (by omega)).2.1
      have := h1.1
      have := h2.1
      omega
  · rw [hrev', List.map_append, hkt, rens_append]
    exact hstep
  · rw [hrev', List.map_append, hkt, rens_append]
    exact hfin
  · have := R.left
    rw [List.map_append, sizes_append] at this ⊢
    rw [List.map_reverse, sizes_reverse, hkt]
    simp only [List.map_cons, List.map_nil, Tm.sizes, Tm.size_eq] at this
    omega
  · have := R.small; omega
  · intro b hb
    rcases hb with hb | ⟨rfl, h0⟩
    · obtain ⟨h1, h2, h3, h4, h5⟩ := R.tree b hb
      refine ⟨h1, by omega, fun hm => ?_, fun hm => ?_, fun o => ?_⟩
      · rcases hM1 b hm with h | h
        · exact h3 h
        · omega
      · rcases (hv' b hm).1 with h | h
        · exact h4 h
        · omega
      · by_cases hbx : b = x.b
        · rw [hbx]; exact hxf o
        · rw [World.frozen?_of_block (w := wr) (a := ⟨b, o, none⟩) (hTblk b hb hbx)]; exact h5 o
    · obtain ⟨_, h1, h2, h3, h4, h5⟩ := ha' h0
      exact ⟨by omega, h2, h3, h4, h5⟩
  · intro b hb
    rcases hM1 b hb with h | h
    · exact R.own b h
    · have := R.fr.size; omega
  · refine R.fr.trans' hfr fun i hi => ?_
    rcases hi with h | h | h
    · exact R.own i h
    · omega
    · exact .inr (R.stk.lt i h).1
  · exact fun b hb => (hv' b hb).2
  · rw [hfr.block _ hrb fun h => ?_]
    · exact R.res
    · rcases h with h | h | h
      · exact R.resOff.1 h
      · exact R.resOff.2.1 (h ▸ hxT)
      · exact R.resOff.2.2 h
  · refine ⟨fun hm => ?_, fun hm => ?_, fun hm => ?_⟩
    · rcases hM1 _ hm with h | h
      · exact R.resOff.1 h
      · omega
    · rcases hm with hm | ⟨h1, h2⟩
      · exact R.resOff.2.1 hm
      · have := (ha' h2).2.1; omega
    · rcases (hv' _ hm).1 with h | h
      · exact R.resOff.2.2 h
      · omega

/-- Where the number has been turned. -/
structure RenMid {σ : Type} (V : Numb σ) (wr w1 : World) (x : PtI) (st : σ) (M' : Nat → Prop) (k : Nat) (n' : Int) (st1 : σ) (M1 : Nat → Prop) : Prop where
  fr : Fr (fun b => M' b ∨ b = x.b) wr w1
  xb : ∀ o u, wr.cell? ⟨x.b, o, none⟩ = some u → ¬ (x.o ≤ o ∧ o < x.o + 4) → w1.cell? ⟨x.b, o, none⟩ = some u
  xf : ∀ o, w1.frozen? ⟨x.b, o, none⟩ = false
  lies : (PtI.mk x.b x.o (.mk x.t.kind n' x.t.s x.t.args) x.a x.c).lies w1
  num : (if x.t.kind = 1 then V.num st x.t.n else (x.t.n, st)) = (n', st1)
  inv : V.inv k st1 M1 w1
  own : ∀ b, M1 b → M' b ∨ wr.heap.size ≤ b
  off : ¬ M1 x.b

theorem RenMid.plain {σ : Type} {V : Numb σ} {wr : World} {x : PtI} {st : σ} {M' : Nat → Prop} {k : Nat} (hx : x.lies wr) (hf : ∀ o, wr.frozen? ⟨x.b, o, none⟩ = false) (hk : ¬ x.t.kind = 1) (hi : V.inv (k + 1) st M' wr) (hM : ¬ M' x.b) :
    RenMid V wr wr x st M' k x.t.n st M' :=
  ⟨Fr.refl _ _, fun _ _ h _ => h, hf, ⟨hx.c0, hx.c1, hx.c2, hx.c3⟩, by rw [if_neg hk], V.less _ _ _ _ hi, fun b h => .inl h, hM⟩
theorem RenMid.called {σ : Type} {V : Numb σ} {wr w1 : World} {x : PtI} {st : σ} {M' M1 : Nat → Prop} {k : Nat} (hx : x.lies wr) (hf : ∀ o, wr.frozen? ⟨x.b, o, none⟩ = false) (hk : x.t.kind = 1) (hM : ¬ M' x.b)
    (hfr : Fr M' wr w1) (hi : V.inv k (V.num st x.t.n).2 M1 w1) (hown : ∀ b, M1 b → M' b ∨ wr.heap.size ≤ b) :
    RenMid V wr (w1.setCell ⟨x.b, x.o + 1, none⟩ (.int .i64 (V.num st x.t.n).1)) x st M' k (V.num st x.t.n).1 (V.num st x.t.n).2 M1 := by
  have hb : x.b < wr.heap.size := World.block_lt_of_cell? wr _ hx.c0
  have h1 : ∀ o u, wr.cell? ⟨x.b, o, none⟩ = some u → w1.cell? ⟨x.b, o, none⟩ = some u := fun o u h => hfr.cell h hM
  have hoff : ¬ M1 x.b := fun hm => by rcases hown _ hm with h | h; exact hM h; omega
  have h2 : ∀ o u, wr.cell? ⟨x.b, o, none⟩ = some u → o ≠ x.o + 1 → (w1.setCell ⟨x.b, x.o + 1, none⟩ (.int .i64 (V.num st x.t.n).1)).cell? ⟨x.b, o, none⟩ = some u := fun o u h ho => by
    rw [World.cell?_setCell_other _ _ _ _ (fun e => ho (congrArg Addr.off e).symm)]; exact h1 o u h
  refine ⟨(hfr.mono fun b h => .inl h).trans ((Fr.set1 w1 x.b (x.o + 1) _).mono fun b h => .inr h), fun o u h ho => h2 o u h (by omega), fun o => ?_, ⟨h2 _ _ hx.c0 (by simp), ?_, h2 _ _ hx.c2 (by simp), h2 _ _ hx.c3 (by simp)⟩, by rw [if_pos hk], ?_, hown, hoff⟩
  · rw [World.frozen?_setCell, World.frozen?_of_block (w := wr) (a := ⟨x.b, o, none⟩) (hfr.block x.b hb hM)]; exact hf o
  · exact World.cell?_setCell_same _ _ _ (h1 _ _ hx.c1)
  · exact V.stab _ _ _ _ _ hi fun b hb' => (Fr.set1 w1 x.b (x.o + 1) _).block b (V.lt _ _ _ _ hi b hb') fun e => hoff (e ▸ hb')

/-- What holds behind the store of the Args. -/
theorem RenMid.stored {σ : Type} {V : Numb σ} {wr w1 : World} {x : PtI} {st st1 : σ} {M' M1 : Nat → Prop} {k : Nat} {n' : Int} (h : RenMid V wr w1 x st M' k n' st1 M1) (a' : Option Addr) (c' : Nat) :
    (∀ o u, wr.cell? ⟨x.b, o, none⟩ = some u → ¬ (x.o ≤ o ∧ o < x.o + 4) → (w1.setCell ⟨x.b, x.o + 3, none⟩ (.slice a' x.t.args.length c')).cell? ⟨x.b, o, none⟩ = some u) ∧
    (PtI.mk x.b x.o (.mk x.t.kind n' x.t.s x.t.args) a' c').lies (w1.setCell ⟨x.b, x.o + 3, none⟩ (.slice a' x.t.args.length c')) ∧
    Fr (fun b => M' b ∨ b = x.b) wr (w1.setCell ⟨x.b, x.o + 3, none⟩ (.slice a' x.t.args.length c')) ∧ V.inv k st1 M1 (w1.setCell ⟨x.b, x.o + 3, none⟩ (.slice a' x.t.args.length c')) := by
  have h2 : ∀ o u, w1.cell? ⟨x.b, o, none⟩ = some u → o ≠ x.o + 3 → (w1.setCell ⟨x.b, x.o + 3, none⟩ (.slice a' x.t.args.length c')).cell? ⟨x.b, o, none⟩ = some u := fun o u h ho => by
    rw [World.cell?_setCell_other _ _ _ _ (fun e => ho (congrArg Addr.off e).symm)]; exact h
  refine ⟨fun o u hu ho => h2 o u (h.xb o u hu ho) (by omega), ⟨h2 _ _ h.lies.c0 (by simp), h2 _ _ h.lies.c1 (by simp), h2 _ _ h.lies.c2 (by simp), World.cell?_setCell_same _ _ _ h.lies.c3⟩, h.fr.trans ((Fr.set1 w1 x.b (x.o + 3) _).mono fun b e => .inr e), ?_⟩
  exact V.stab _ _ _ _ _ h.inv fun b hb' => (Fr.set1 w1 x.b (x.o + 3) _).block b (V.lt _ _ _ _ h.inv b hb') fun e => h.off (e ▸ hb')

theorem RenMid.done0 {σ : Type} {V : Numb σ} {I M : Nat → Prop} {w0 : World} {R0 : Tm} {fin : σ} {lim k g cap : Nat} {wr w1 : World} {L0 : List PtI} {x : PtI} {st st1 : σ} {M' M1 T : Nat → Prop} {n' : Int}
    (R : RenRel V I M w0 R0 fin lim (k + 1 + Tm.sizes x.t.args) (.slice (some ⟨g, 0, none⟩) (L0.length + 1) cap) wr (L0 ++ [x]) st M' T) (hI : ∀ b, I b → b < w0.heap.size) (hIM : ∀ b, I b → ¬ M b)
    (hP : Stk wr w0.heap.size 106 1 PtI.cells (.slice (some ⟨g, 0, none⟩) L0.length cap) L0)
    (h : RenMid V wr w1 x st M' (k + Tm.sizes x.t.args) n' st1 M1) (h0 : x.t.args.length = 0) :
    ∃ T', RenRel V I M w0 R0 fin lim (k + Tm.sizes x.t.args) (.slice (some ⟨g, 0, none⟩) L0.length cap) (w1.setCell ⟨x.b, x.o + 3, none⟩ (.slice none x.t.args.length 0)) (L0 ++ [].reverse) st1 M1 T' := by
  obtain ⟨h1, h2, h3, h4⟩ := h.stored none 0
  have hxT := (R.lies x (by simp)).2.2
  have htx := R.tree x.b hxT
  refine R.next (v' := .slice (some ⟨g, 0, none⟩) L0.length cap) (kids := []) (g := 0) hI hIM h.num ?_ (List.eq_nil_of_length_eq_zero h0).symm (by simp) (by simp) h2 (by omega) (by omega) (h3.mono fun b hb => ?_) h1 (fun o => by rw [World.frozen?_setCell]; exact h.xf o) h4 h.own ?_
  · rw [List.reverse_nil, List.append_nil]
    refine hP.fr h3 fun b hb hm => ?_
    simp only [Value.ownBlock, Option.some.injEq] at hb
    subst hb
    rcases hm with hm | hm
    · exact R.apart _ rfl hm
    · exact htx.2.2.2.1 (by rw [Value.ownBlock, hm])
  · rcases hb with hb | hb
    · exact .inl hb
    · exact .inr (.inl hb)
  · intro b hb
    refine ⟨.inl hb, fun hm => ?_⟩
    simp only [Value.ownBlock, Option.some.injEq] at hb
    subst hb
    rcases h.own _ hm with hm | hm
    · exact R.apart _ rfl hm
    · have := (R.stk.lt g rfl).2; omega

theorem RenMid.startN {σ : Type} {V : Numb σ} {I M : Nat → Prop} {w0 : World} {R0 : Tm} {fin : σ} {lim k k2 g cap n : Nat} {wr w1 : World} {L0 K : List PtI} {x : PtI} {st st1 : σ} {M' M1 T : Nat → Prop} {n' : Int} {cs : List Value} {a' : Option Addr}
    (R : RenRel V I M w0 R0 fin lim k2 (.slice (some ⟨g, 0, none⟩) (L0.length + 1) cap) wr (L0 ++ [x]) st M' T)
    (hP : Stk wr w0.heap.size 106 1 PtI.cells (.slice (some ⟨g, 0, none⟩) L0.length cap) L0)
    (h : RenMid V wr w1 x st M' k n' st1 M1) (hn : n = K.length) (hn2 : x.t.args.length = n) :
    PushIn w0.heap.size 106 1 PtI.cells ((w1.setCell ⟨x.b, x.o + 3, none⟩ (.slice a' n n)).alloc (.cells cs.toArray 28)) g L0 K n (.slice (some ⟨g, 0, none⟩) L0.length cap) ((w1.setCell ⟨x.b, x.o + 3, none⟩ (.slice a' n n)).alloc (.cells cs.toArray 28)) := by
  obtain ⟨h1, h2, h3, h4⟩ := h.stored a' n
  rw [hn2] at h3
  have hxT := (R.lies x (by simp)).2.2
  have htx := R.tree x.b hxT
  refine PushIn.start (hP.fr (h3.trans (Fr.alloc _ _ _)) fun b hb hm => ?_) hn fun b hb => by simpa [Value.ownBlock] using hb.symm
  simp only [Value.ownBlock, Option.some.injEq] at hb
  subst hb
  rcases hm with hm | hm
  · exact R.apart _ rfl hm
  · exact htx.2.2.2.1 (by rw [Value.ownBlock, hm])

theorem RenMid.doneN {σ : Type} {V : Numb σ} {I M : Nat → Prop} {w0 : World} {R0 : Tm} {fin : σ} {lim k g cap : Nat} {wr w1 w3 : World} {L0 : List PtI} {x : PtI} {st st1 : σ} {M' M1 T : Nat → Prop} {n' : Int} {v' : Value} {K : List AbI} {cs : List Value}
    (R : RenRel V I M w0 R0 fin lim (k + 1 + Tm.sizes x.t.args) (.slice (some ⟨g, 0, none⟩) (L0.length + 1) cap) wr (L0 ++ [x]) st M' T) (hI : ∀ b, I b → b < w0.heap.size) (hIM : ∀ b, I b → ¬ M b)
    (hP : Stk wr w0.heap.size 106 1 PtI.cells (.slice (some ⟨g, 0, none⟩) L0.length cap) L0)
    (h : RenMid V wr w1 x st M' (k + Tm.sizes x.t.args) n' st1 M1) (hK : K.map (·.t) = x.t.args) (hKd : ∀ y ∈ K, SlC wr I y.t.args y.a y.c)
    (hcs : cs = K.flatMap (fun y => [.int .i64 y.t.kind, .int .i64 y.t.n, .string y.t.s, .slice y.a y.t.args.length y.c]))
    (hQ : PushIn w0.heap.size 106 1 PtI.cells ((w1.setCell ⟨x.b, x.o + 3, none⟩ (.slice (some ⟨w1.heap.size, 0, none⟩) x.t.args.length x.t.args.length)).alloc (.cells cs.toArray 28)) g L0
      (K.zipIdx.map fun y => PtI.mk w1.heap.size (y.2 * 4) y.1.t y.1.a y.1.c) 0 v' w3) :
    ∃ T', RenRel V I M w0 R0 fin lim (k + Tm.sizes x.t.args) v' w3 (L0 ++ (K.zipIdx.map fun y => PtI.mk w1.heap.size (y.2 * 4) y.1.t y.1.a y.1.c).reverse) st1 M1 T' := by
  obtain ⟨h1, h2, h3, h4⟩ := h.stored (some ⟨w1.heap.size, 0, none⟩) x.t.args.length
  generalize hW : w1.setCell ⟨x.b, x.o + 3, none⟩ (.slice (some ⟨w1.heap.size, 0, none⟩) x.t.args.length x.t.args.length) = W at *
  have hWs : W.heap.size = w1.heap.size := by rw [← hW]; simp
  have hWf : ∀ o, W.frozen? ⟨x.b, o, none⟩ = false := fun o => by rw [← hW, World.frozen?_setCell]; exact h.xf o
  have hxT := (R.lies x (by simp)).2.2
  have htx := R.tree x.b hxT
  have hgl := (R.stk.lt g rfl)
  have hfs := h.fr.size
  have hg2 : ¬ w1.heap.size = g := by omega
  have hxg : ¬ x.b = g := fun e => htx.2.2.2.1 (by rw [Value.ownBlock, e])
  have hM1g : ¬ M1 w1.heap.size := fun hm => by have := V.lt _ _ _ _ h.inv _ hm; omega
  have hM1gg : ¬ M1 g := fun hm => by
    rcases h.own _ hm with hm | hm
    · exact R.apart _ rfl hm
    · omega
  have hblk : (W.alloc (.cells cs.toArray 28)).heap[w1.heap.size]? = some (.cells cs.toArray 28 (0, 0)) := by rw [← hWs]; exact heap_alloc_new W _
  have hblk3 : w3.heap[w1.heap.size]? = some (.cells cs.toArray 28 (0, 0)) := (hQ.fr.block _ (by rw [World.size_alloc]; omega) hg2).trans hblk
  have hWfr : ∀ M, Fr M W (W.alloc (.cells cs.toArray 28)) := fun M => Fr.alloc M W _
  have hfr : Fr (fun b => M' b ∨ b = x.b ∨ (Value.slice (some ⟨g, 0, none⟩) (L0.length + 1) cap).ownBlock = some b) wr w3 :=
    ((h3.mono fun b hb => by rcases hb with hb | hb; exact .inl hb; exact .inr (.inl hb)).trans (hWfr _)).trans (hQ.fr.mono fun b hb => .inr (.inr (by rw [Value.ownBlock, hb])))
  have hkp : ∀ (i : Nat) (y : PtI), (K.zipIdx.map fun y => PtI.mk w1.heap.size (y.2 * 4) y.1.t y.1.a y.1.c)[i]? = some y → ∃ z, K[i]? = some z ∧ y = PtI.mk w1.heap.size (i * 4) z.t z.a z.c := fun i y hy => by
    rw [List.getElem?_map, List.getElem?_zipIdx] at hy
    cases hz : K[i]? with
    | none => simp [hz] at hy
    | some z => simp [hz] at hy; exact ⟨z, rfl, hy.symm⟩
  refine R.next (v' := v') (g := w1.heap.size) (c' := x.t.args.length) (a' := some ⟨w1.heap.size, 0, none⟩) hI hIM h.num ?_ ?_ (fun i y hy => ?_) (fun y hy => ?_) ?_ (Nat.le_refl _) (fun h0 => ⟨rfl, hfs, ?_, hM1g, ?_, fun o => frozen_of_block hblk3 o⟩) hfr ?_ ?_ ?_ h.own ?_
  · have := hQ.stk; rwa [List.drop_zero] at this
  · rw [List.map_map, ← hK]
    have : ∀ (L : List AbI) (m : Nat), List.map ((fun y : PtI => y.t) ∘ fun y : AbI × Nat => PtI.mk w1.heap.size (y.2 * 4) y.1.t y.1.a y.1.c) (L.zipIdx m) = L.map (·.t) := by
      intro L
      induction L with
      | nil => intro m; rfl
      | cons z L ih => intro m; simp only [List.zipIdx_cons, List.map_cons, ih, Function.comp]
    exact this K 0
  · obtain ⟨z, _, rfl⟩ := hkp i y hy
    exact ⟨rfl, rfl⟩
  · obtain ⟨i, hi⟩ := List.getElem?_of_mem hy
    obtain ⟨z, hz, rfl⟩ := hkp i y hi
    have hcell : ∀ j u, j < 4 → [Value.int .i64 z.t.kind, .int .i64 z.t.n, .string z.t.s, .slice z.a z.t.args.length z.c][j]? = some u → w3.cell? ⟨w1.heap.size, i * 4 + j, none⟩ = some u := fun j u hj hu => by
      have := flatMap_get (cel := fun y : AbI => [Value.int .i64 y.t.kind, .int .i64 y.t.n, .string y.t.s, .slice y.a y.t.args.length y.c]) (size := 4) (fun _ => rfl) K i j z hz hj
      rw [hu, ← hcs] at this
      simp [World.cell?, hblk3, this]
    refine ⟨⟨hcell 0 _ (by omega) rfl, hcell 1 _ (by omega) rfl, hcell 2 _ (by omega) rfl, hcell 3 _ (by omega) rfl⟩, ?_⟩
    refine (hKd z (List.mem_of_getElem? hz)).fr hfr fun b hb hm => ?_
    have hb0 := hI b hb
    rcases hm with hm | hm | hm
    · rcases R.own b hm with h | h
      · exact hIM b hb h
      · omega
    · omega
    · have := (R.stk.lt b hm).1; omega
  · refine ⟨?_, ?_, ?_, ?_⟩
    · exact hQ.fr.cell ((hWfr (fun _ => False)).cell h2.c0 id) hxg
    · exact hQ.fr.cell ((hWfr (fun _ => False)).cell h2.c1 id) hxg
    · exact hQ.fr.cell ((hWfr (fun _ => False)).cell h2.c2 id) hxg
    · exact hQ.fr.cell ((hWfr (fun _ => False)).cell h2.c3 id) hxg
  · have := hQ.fr.size; rw [World.size_alloc] at this; omega
  · intro hv
    rcases hQ.row _ hv with h | h
    · exact hg2 h
    · rw [World.size_alloc] at h; omega
  · exact fun o u hu ho => hQ.fr.cell ((hWfr (fun _ => False)).cell (h1 o u hu ho) id) hxg
  · intro o
    have hb : x.b < W.heap.size := by rw [hWs]; omega
    rw [World.frozen?_of_block (w := W.alloc (.cells cs.toArray 28)) (a := ⟨x.b, o, none⟩) (hQ.fr.block x.b (by rw [World.size_alloc]; omega) hxg), World.frozen?_alloc_old W _ _ (by simp; omega)]
    exact hWf o
  · refine V.stab _ _ _ _ _ h4 fun b hb => ?_
    have hlt := V.lt _ _ _ _ h4 b hb
    rw [hQ.fr.block b (by rw [World.size_alloc]; omega) (fun e => hM1gg (e ▸ hb)), Below.heap_alloc _ _ _ hlt]
  · intro b hb
    rcases hQ.row b hb with h' | h'
    · exact ⟨.inl (by rw [Value.ownBlock, h']), fun hm => hM1gg (h' ▸ hm)⟩
    · rw [World.size_alloc] at h'
      exact ⟨.inr (by omega), fun hm => by have := V.lt _ _ _ _ h.inv b hm; omega⟩

end Go.Proofs.YtkjkckdjenjgdaaDoor
