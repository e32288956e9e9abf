/- More plain laws: copy between rows of whatever width, made rows, a tree with holes. Nothing of the dump. -/
import Derived.Test.YtkjkckdjenjgdaaDoorLib
import Derived.Laws.CopyOwn
import Derived.Laws.MakeOwn
import Derived.Laws.Rows
namespace Go.Proofs.YtkjkckdjenjgdaaDoor
open Go Go.RowKit

/-- 'copy(dst, src)', both of n elements, dst a whole row of the call's own. -/
theorem wpList_copy_whole {P : Program} {w : World} {ops : Array Oper} {rest : List Oper} {o : Oper} {a : Act} {Q : Exit → Act → World → Prop} (hgd : o.guard = none) (d s : Operand) (dT sT : TypeId)
    (ho : o.op = .call { callee := .builtin .copy, args := #[d, s], argTypes := #[dT, sT] }) (elem : TypeId) (i : TypeInfo) (size : Nat) (hu : P.underlying dT = some (.slice elem)) (hi : P.info? elem = some i) (hsz : i.size = size)
    (g n dCap : Nat) (ad : Addr) (sCap : Nat) (hd : a.eval d = .slice (some ⟨g, 0, none⟩) n dCap) (hs : a.eval s = .slice (some ad) n sCap)
    (cur : Array Value) (t : TypeId) (hg : w.heap[g]? = some (.cells cur t (0, 0))) (cs : List Value) (hn : cs.length = n * size) (hcur : cur.size = n * size)
    (hsrc : ∀ j v, cs[j]? = some v → w.cell? (ad.add j) = some v) (h1 : ∀ v ∈ cs, v.oneCell' = true)
    (h : wpList P ops Q rest (a.put o.dst (goInt n)) (w.setRow g cs.toArray)) : wpList P ops Q (o :: rest) a w := by
  refine wpList_plain hgd fun K hK => ?_
  have hf := run_firstCells_some (P := P) w i.size n ad n sCap cs (by rw [hsz]; exact hn) hsrc
  have hst := run_storeCells_at P g 0 t cs 0 cur w hg (by omega) h1
  simp only [Nat.zero_add, List.take_zero, List.nil_append] at hst
  have hdr : cur.toList.drop cs.length = [] := List.drop_eq_nil_of_le (by simp; omega)
  rw [hdr, List.append_nil] at hst
  have hmin : Nat.min n n = n := Nat.min_self n
  have hrun : (Builtin.copy_ #[dT, sT] o.type #[.slice (some ⟨g, 0, none⟩) n dCap, .slice (some ad) n sCap]).run P w = .ok (goInt n) (w.setRow g cs.toArray) := by
    simp [Builtin.copy_, run_underlying hu, Builtin.lenOf, sizeOf, typeInfo, hi, hmin, hf, hst]
  unfold Oper.wp
  simp [execOp, ho, resolve, invoke, builtin, hd, hs, hrun, Result.andThen]
  exact hK _ _ h

theorem setRow_alloc (w : World) (cur cs : Array Value) (t : TypeId) : (w.alloc (.cells cur t)).setRow w.heap.size cs = w.alloc (.cells cs t) := by
  unfold World.setRow World.alloc
  congr 1
  apply Array.ext_getElem?
  intro k
  simp only [Array.getElem?_modify, Array.getElem?_push]
  by_cases hk : k = w.heap.size
  · subst hk; simp
  · simp [hk]; intro h; exact absurd h.symm hk

/-- 'make([]T, n)', as an equation. -/
theorem run_make_n {P : Program} (w : World) (t e : TypeId) (i : TypeInfo) (z : Value) (size bytes : Nat) (ht : P.underlying t = some (.slice e)) (hi : P.info? e = some i) (hz : i.zero = some z) (hsize : i.size = size) (hby : i.bytes = bytes)
    (n : Nat) (hn : n ≤ 9223372036854775807) (hb : bytes * n ≤ 281474976710656) :
    (Instr.makeSlice t (.int .i64 (n : Int)) (.int .i64 (n : Int))).run P w = .ok (.slice (some ⟨w.heap.size, 0, none⟩) n n) (w.alloc (.cells (madeCells z.cells (n * size)) e)) := by
  subst hsize
  subst hby
  have hb' : (i.bytes : Int) * (n : Int) ≤ 281474976710656 := by
    have h : ((i.bytes * n : Nat) : Int) ≤ 281474976710656 := by omega
    rwa [Int.natCast_mul] at h
  have := run_make (P := P) w t e i z ht hi hz .i64 .i64 n n (by omega) (Int.le_refl _) hb' (by omega)
  rwa [Int.toNat_natCast] at this

/-- The same onto a row that has just been made: the last block. -/
theorem wpList_copy_new {P : Program} {w : World} {ops : Array Oper} {rest : List Oper} {o : Oper} {a : Act} {Q : Exit → Act → World → Prop} (hgd : o.guard = none) (d s : Operand) (dT sT : TypeId)
    (ho : o.op = .call { callee := .builtin .copy, args := #[d, s], argTypes := #[dT, sT] }) (elem : TypeId) (i : TypeInfo) (size : Nat) (hu : P.underlying dT = some (.slice elem)) (hi : P.info? elem = some i) (hsz : i.size = size)
    (N : Nat) (hN : w.heap.size = N) (n dCap : Nat) (ad : Addr) (sCap : Nat) (hd : a.eval d = .slice (some ⟨N, 0, none⟩) n dCap) (hs : a.eval s = .slice (some ad) n sCap)
    (cur : Array Value) (t : TypeId) (cs : List Value) (hn : cs.length = n * size) (hcur : cur.size = n * size)
    (hsrc : ∀ j v, cs[j]? = some v → w.cell? (ad.add j) = some v) (h1 : ∀ v ∈ cs, v.oneCell' = true)
    (h : wpList P ops Q rest (a.put o.dst (goInt n)) (w.alloc (.cells cs.toArray t))) : wpList P ops Q (o :: rest) a (w.alloc (.cells cur t)) := by
  subst hN
  refine wpList_copy_whole hgd d s dT sT ho elem i size hu hi hsz w.heap.size n dCap ad sCap hd hs cur t (heap_alloc_new w _) cs hn hcur (fun j v hv => ?_) h1 (by rw [setRow_alloc]; exact h)
  have := hsrc j v hv
  rw [World.cell?_alloc_old w _ _ (Nat.ne_of_lt (World.block_lt_of_cell? w _ this))]
  exact this

theorem flatMap_get {ι α : Type} {cel : ι → List α} {size : Nat} (hc : ∀ x, (cel x).length = size) : ∀ (K : List ι) (i j : Nat) (x : ι), K[i]? = some x → j < size → (K.flatMap cel)[i * size + j]? = (cel x)[j]?
  | [], i, j, x, h, _ => by simp at h
  | y :: K, 0, j, x, h, hj => by
    simp only [List.getElem?_cons_zero, Option.some.injEq] at h
    subst h
    rw [List.flatMap_cons, Nat.zero_mul, Nat.zero_add, List.getElem?_append_left (by rw [hc]; exact hj)]
  | y :: K, i + 1, j, x, h, hj => by
    rw [List.flatMap_cons, List.getElem?_append_right (by rw [hc, Nat.add_mul]; omega), hc]
    have e : (i + 1) * size + j - size = i * size + j := by rw [Nat.add_mul]; omega
    rw [e]
    exact flatMap_get hc K i j x (by simpa using h) hj
/-- Which item, and which of its cells. -/
theorem flatMap_at {ι α : Type} {cel : ι → List α} {size : Nat} (hc : ∀ x, (cel x).length = size) (hs : 0 < size) (K : List ι) (j : Nat) (u : α) (h : (K.flatMap cel)[j]? = some u) :
    ∃ x, K[j / size]? = some x ∧ (cel x)[j % size]? = some u := by
  have hl := (List.getElem?_eq_some_iff.1 h).1
  rw [flatMap_length hc] at hl
  have hi : j / size < K.length := (Nat.div_lt_iff_lt_mul hs).2 hl
  refine ⟨K[j / size], List.getElem?_eq_getElem hi, ?_⟩
  have := flatMap_get hc K (j / size) (j % size) K[j / size] (List.getElem?_eq_getElem hi) (Nat.mod_lt _ hs)
  rw [← this, ← h]
  congr 1
  rw [Nat.mul_comm]
  exact Nat.div_add_mod j size

/-- The items of K from m on lie on the stack, the last one first: of a loop that pushes from the last one down. -/
structure PushIn {ι : Type} (base : Nat) (e : TypeId) (size : Nat) (cel : ι → List Value) (w1 : World) (g : Nat) (L0 K : List ι) (m : Nat) (v : Value) (w2 : World) : Prop where
  le : m ≤ K.length
  stk : Stk w2 base e size cel v (L0 ++ (K.drop m).reverse)
  fr : Fr (· = g) w1 w2
  row : ∀ b, v.ownBlock = some b → b = g ∨ w1.heap.size ≤ b
theorem PushIn.start {ι : Type} {base : Nat} {e : TypeId} {size : Nat} {cel : ι → List Value} {w1 : World} {g : Nat} {L0 K : List ι} {n : Nat} {v : Value} (h : Stk w1 base e size cel v L0) (hn : n = K.length) (hv : ∀ b, v.ownBlock = some b → b = g) : PushIn base e size cel w1 g L0 K n v w1 := by
  subst hn
  exact ⟨Nat.le_refl _, by rw [List.drop_length, List.reverse_nil, List.append_nil]; exact h, Fr.refl _ _, fun b hb => .inl (hv b hb)⟩
theorem PushIn.step {ι : Type} {base : Nat} {e : TypeId} {size : Nat} {cel : ι → List Value} {w1 : World} {g : Nat} {L0 K : List ι} {j : Nat} {v : Value} {w2 w3 w4 : World} {y : ι} {g2 cap2 nn : Nat}
    (Q : PushIn base e size cel w1 g L0 K (j + 1) v w2) (hy : K[j]? = some y) (h23 : Fr (fun _ => False) w2 w3) (hnn : (L0 ++ (K.drop (j + 1)).reverse).length = nn)
    (hown : w4.ownsRow base e size (.slice (some ⟨g2, 0, none⟩) (nn + 1) cap2) (nn + 1) ((L0 ++ (K.drop (j + 1)).reverse).flatMap cel ++ cel y)) (hgrow : w3.grownBy w4 v.ownBlock) (hat : v.ownBlock = some g2 ∨ g2 = w3.heap.size) :
    PushIn base e size cel w1 g L0 K j (.slice (some ⟨g2, 0, none⟩) (nn + 1) cap2) w4 := by
  have hle := Q.le
  have hdrop : (K.drop j).reverse = (K.drop (j + 1)).reverse ++ [y] := by
    rw [← List.reverse_cons]
    congr 1
    rw [List.drop_eq_getElem_cons (by omega)]
    congr 1
    exact (List.getElem?_eq_some_iff.1 hy).2
  have hf2 : Fr (fun b => some b = v.ownBlock) w2 w4 := (h23.mono fun _ h => h.elim).trans (Fr.grown hgrow fun k hk => hk.symm)
  have hrow := Q.row
  refine ⟨by omega, ?_, Q.fr.trans' hf2 fun i hi => hrow i hi.symm, fun b hb => ?_⟩
  · rw [hdrop, ← List.append_assoc]
    refine Stk.push ?_
    rw [hnn]
    exact hown
  · simp only [Value.ownBlock, Option.some.injEq] at hb
    subst hb
    rcases hat with h | h
    · exact hrow _ h
    · have := Q.fr.size; have := h23.size; right; omega

/-- A pointer to a term that waits. -/
structure PtI where
  b : Nat
  o : Nat
  t : Tm
  a : Option Addr
  c : Nat
def PtI.cells (x : PtI) : List Value := [.pointer (some ⟨x.b, x.o, none⟩)]
theorem PtI.length_cells (x : PtI) : x.cells.length = 1 := rfl
/-- The term lies there. -/
structure PtI.lies (w : World) (x : PtI) : Prop where
  c0 : w.cell? ⟨x.b, x.o, none⟩ = some (.int .i64 x.t.kind)
  c1 : w.cell? ⟨x.b, x.o + 1, none⟩ = some (.int .i64 x.t.n)
  c2 : w.cell? ⟨x.b, x.o + 2, none⟩ = some (.string x.t.s)
  c3 : w.cell? ⟨x.b, x.o + 3, none⟩ = some (.slice x.a x.t.args.length x.c)
def PtI.has (x : PtI) (b o : Nat) : Prop := x.b = b ∧ x.o ≤ o ∧ o < x.o + 4
def PtI.apart (x y : PtI) : Prop := ∀ b o, x.has b o → y.has b o → False

section
variable {σ : Type} (num : σ → Int → Int × σ)
mutual
def ren : Tm → σ → Tm × σ
  | .mk k n s ts, st => (.mk k (if k = 1 then num st n else (n, st)).1 s (rens ts (if k = 1 then num st n else (n, st)).2).1, (rens ts (if k = 1 then num st n else (n, st)).2).2)
def rens : List Tm → σ → List Tm × σ
  | [], st => ([], st)
  | t :: ts, st => ((ren t st).1 :: (rens ts (ren t st).2).1, (rens ts (ren t st).2).2)
end
theorem rens_append (xs ys : List Tm) (st : σ) : rens num (xs ++ ys) st = ((rens num xs st).1 ++ (rens num ys (rens num xs st).2).1, (rens num ys (rens num xs st).2).2) := by
  induction xs generalizing st with
  | nil => simp [rens]
  | cons t ts ih => simp only [List.cons_append, rens, ih]
theorem rens_length (xs : List Tm) (st : σ) : (rens num xs st).1.length = xs.length := by
  induction xs generalizing st with
  | nil => simp [rens]
  | cons t ts ih => simp only [rens, List.length_cons, ih]
end

/-- A TREE WITH HOLES: whoever fills the holes at pend with the terms rs, and turns nothing else of the blocks of T, has the term R at B0. -/
def Hole (T : Nat → Prop) (w : World) (pend : List PtI) (rs : List Tm) (R : Tm) (B0 : Nat) : Prop :=
  rs.length = pend.length ∧ ∀ (w2 : World) (J : Nat → Prop), (∀ b, T b → J b) →
    (∀ b o v, T b → w.cell? ⟨b, o, none⟩ = some v → (∀ p ∈ pend, ¬ p.has b o) → w2.cell? ⟨b, o, none⟩ = some v) →
    (∀ (i : Nat) (p : PtI) (r : Tm), pend[i]? = some p → rs[i]? = some r → TmC w2 J r p.b p.o) → TmC w2 J R B0 0

theorem Hole.start {w : World} {T : Nat → Prop} (x : PtI) (R : Tm) (h0 : x.o = 0) : Hole T w [x] [R] R x.b :=
  ⟨rfl, fun _ _ _ _ h => h0 ▸ h 0 x R rfl rfl⟩
theorem Hole.done {w : World} {T : Nat → Prop} {R : Tm} {B0 : Nat} (h : Hole T w [] [] R B0) : TmC w T R B0 0 :=
  h.2 w T (fun _ h => h) (fun _ _ _ _ h _ => h) (by simp)
theorem Hole.step {T : Nat → Prop} {w w' : World} {p : PtI} {rest : List PtI} {n' : Int} {rts rs : List Tm} {R : Tm} {B0 g : Nat} {kids : List PtI} {a' : Option Addr} {c' : Nat}
    (h : Hole T w (p :: rest) (.mk p.t.kind n' p.t.s rts :: rs) R B0) (hT : T p.b) (hp : ∀ q ∈ rest, p.apart q)
    (hk : ∀ b o v, T b → w.cell? ⟨b, o, none⟩ = some v → ¬ p.has b o → w'.cell? ⟨b, o, none⟩ = some v)
    (hc : (PtI.mk p.b p.o (.mk p.t.kind n' p.t.s rts) a' c').lies w') (hlc : rts.length ≤ c')
    (hg : 0 < rts.length → a' = some ⟨g, 0, none⟩ ∧ ¬ T g) (hl : kids.length = rts.length) (hkids : ∀ (i : Nat) (x : PtI), kids[i]? = some x → x.b = g ∧ x.o = i * 4) :
    Hole (fun b => T b ∨ b = g ∧ 0 < rts.length) w' (kids ++ rest) (rts ++ rs) R B0 := by
  obtain ⟨hlen, hw⟩ := h
  refine ⟨by simp only [List.length_append, List.length_cons] at hlen ⊢; omega, fun w2 J hJ hag hfill => ?_⟩
  have hkg : ∀ x ∈ kids, x.b = g ∧ 0 < rts.length := fun x hx => by
    obtain ⟨i, hi⟩ := List.getElem?_of_mem hx
    have := (List.getElem?_eq_some_iff.1 hi).1
    exact ⟨(hkids i x hi).1, by omega⟩
  have hoff : ∀ b o, T b → ∀ x ∈ kids, ¬ x.has b o := fun b o hb x hx hh => by
    obtain ⟨h1, h2⟩ := hkg x hx
    exact (hg h2).2 (by rw [← h1, hh.1]; exact hb)
  refine hw w2 J (fun b hb => hJ b (.inl hb)) (fun b o v hb hv ho => ?_) ?_
  · refine hag b o v (.inl hb) (hk b o v hb hv (ho p (by simp))) fun q hq => ?_
    rcases List.mem_append.1 hq with hq | hq
    · exact hoff b o hb q hq
    · exact ho q (by simp [hq])
  · intro i q r hq hr
    cases i with
    | succ i =>
      refine hfill (kids.length + i) q r ?_ ?_
      · rw [List.getElem?_append_right (by omega)]; simpa using hq
      · rw [List.getElem?_append_right (by omega), hl]; simpa using hr
    | zero =>
      simp only [List.getElem?_cons_zero, Option.some.injEq] at hq hr
      subst hq; subst hr
      have hcell : ∀ o v, p.has p.b o → w'.cell? ⟨p.b, o, none⟩ = some v → w2.cell? ⟨p.b, o, none⟩ = some v := fun o v ho hv => by
        refine hag p.b o v (.inl hT) hv fun q hq => ?_
        rcases List.mem_append.1 hq with hq | hq
        · exact hoff p.b o hT q hq
        · exact fun hh => hp q hq p.b o ho hh
      refine TmC.iff.2 ⟨hJ p.b (.inl hT), hcell _ _ ⟨rfl, by omega, by omega⟩ hc.c0, hcell _ _ ⟨rfl, by omega, by omega⟩ hc.c1, hcell _ _ ⟨rfl, by omega, by omega⟩ hc.c2, a', c', hcell _ _ ⟨rfl, by omega, by omega⟩ hc.c3, hlc, fun h0 => ?_⟩
      refine ⟨g, 0, (hg h0).1, TmsC.of_get fun i hi => ?_⟩
      simp only [Tm.args] at hi ⊢
      have hik : i < kids.length := by omega
      have h1 := hfill i kids[i] rts[i] (by rw [List.getElem?_append_left hik]; simp) (by rw [List.getElem?_append_left hi]; simp)
      obtain ⟨e1, e2⟩ := hkids i kids[i] (by simp)
      rw [e1, e2] at h1
      simpa using h1
end Go.Proofs.YtkjkckdjenjgdaaDoor
