/- Plain laws: the list of a text's bytes, as characters or as codes, is a good list that may be. -/
import Derived.Test.YtkjkckdjenjgdaaDoorDo2
namespace Go.Proofs.YtkjkckdjenjgdaaDoor
open Go Go.RowKit

def byteT (codes : Bool) (b : UInt8) : Tm := if codes then intT b.toNat else atomT ⟨#[b]⟩
def nilT : Tm := atomT ⟨#[91, 93]⟩
def lst (codes : Bool) (bs : List UInt8) : Tm := listT (bs.map (byteT codes)) nilT
theorem lst_nil (codes : Bool) : lst codes [] = nilT := rfl
theorem lst_cons (codes : Bool) (b : UInt8) (bs : List UInt8) : lst codes (b :: bs) = consT (byteT codes b) (lst codes bs) := rfl
theorem isByte_byteT (codes : Bool) (b : UInt8) : isByte codes (byteT codes b) b := by
  cases codes <;> simp [isByte, byteT, intT, atomT, Tm.kind, Tm.n, Tm.s]
theorem byteT_args (codes : Bool) (b : UInt8) : (byteT codes b).args = [] := by cases codes <;> rfl
theorem byteT_may (codes : Bool) (b : UInt8) : mayB (byteT codes b) = true := by
  have h0 : (⟨#[]⟩ : ByteArray).toList.isEmpty = true := by rw [ByteArray.toList_eq]; rfl
  cases codes
  · exact may_atom _ (by show 1 ≤ 1000; omega)
  · simp [mayB, byteT, intT, Tm.kind_mk, Tm.n_mk, Tm.s_mk, Tm.args_mk, h0]
theorem nilT_may : mayB nilT = true := may_atom _ (by decide)
theorem consT_may (x y : Tm) : mayB (consT x y) = true := by
  have : dotS.size ≤ 1000 := by decide
  simp [mayB, consT, Tm.kind_mk, Tm.n_mk, Tm.s_mk, Tm.args_mk, this]
theorem flat_leaf (t : Tm) (d : Int) (h : t.args = []) : t.flat d = [(t, d)] := by rw [Tm.flat_eq, h]; rfl
theorem lst_flat (codes : Bool) : ∀ (bs : List UInt8) (d : Int) (y : Tm × Int), y ∈ (lst codes bs).flat d → mayB y.1 = true ∧ y.2 ≤ d + bs.length
  | [], d, y, h => by
    rw [lst_nil, flat_leaf _ _ rfl] at h
    obtain rfl := List.mem_singleton.1 h
    exact ⟨nilT_may, by simp⟩
  | b :: bs, d, y, h => by
    rw [lst_cons, Tm.flat_eq] at h
    simp only [consT, Tm.args, Tm.flats, List.append_nil, List.mem_cons, List.mem_append] at h
    rw [flat_leaf _ _ (byteT_args codes b)] at h
    rcases h with rfl | h | h
    · exact ⟨consT_may _ _, by simp only [List.length_cons]; omega⟩
    · obtain rfl := List.mem_singleton.1 h
      exact ⟨byteT_may _ _, by simp only [List.length_cons]; omega⟩
    · have := lst_flat codes bs (d + 1) y h
      exact ⟨this.1, by have := this.2; simp only [List.length_cons]; omega⟩
theorem size_leaf (t : Tm) (h : t.args = []) : t.size = 1 := by rw [Tm.size_eq, h]; rfl
theorem lst_size (codes : Bool) : ∀ bs : List UInt8, (lst codes bs).size = 2 * bs.length + 1
  | [] => size_leaf _ rfl
  | b :: bs => by
    rw [lst_cons, Tm.size_eq]
    simp only [consT, Tm.args, Tm.sizes, size_leaf _ (byteT_args codes b), lst_size codes bs, List.length_cons]
    omega
theorem fold_ok (D : Int) : ∀ (l : List (Tm × Int)) (st : MeasS), st.1 = false → (∀ y ∈ l, mayB y.1 = true ∧ y.2 ≤ D) → st.2.2 ≤ D →
    (l.foldl (fun st y => measStep st y.1 y.2) st).1 = false ∧ (l.foldl (fun st y => measStep st y.1 y.2) st).2.1 = st.2.1 + l.length ∧ (l.foldl (fun st y => measStep st y.1 y.2) st).2.2 ≤ D
  | [], st, h, _, hd => ⟨h, by simp, hd⟩
  | y :: l, st, h, hl, hd => by
    have hy := hl y (by simp)
    have := fold_ok D l (measStep st y.1 y.2) (by simp [measStep, h, hy.1]) (fun z hz => hl z (by simp [hz])) (by simp only [measStep]; split <;> omega)
    simp only [List.foldl_cons, List.length_cons]
    refine ⟨this.1, ?_, this.2.2⟩
    rw [this.2.1]
    simp only [measStep]
    omega
theorem isCons_atom (s : ByteArray) : isCons (atomT s) = false := by simp [isCons, atomT, Tm.kind]
theorem isCons_consT (x y : Tm) : isCons (consT x y) = true := by simp [isCons, consT, Tm.kind, Tm.s, Tm.args, dotS]
theorem itemsF_listT : ∀ (xs : List Tm) (tail : Tm) (f : Nat), isCons tail = false → xs.length ≤ f → itemsF f (listT xs tail) = (xs, tail)
  | [], tail, f, h, _ => itemsF_none h
  | x :: xs, tail, f, h, hf => by
    obtain ⟨g, rfl⟩ : ∃ g, f = g + 1 := ⟨f - 1, by simp at hf; omega⟩
    have e : listT (x :: xs) tail = consT x (listT xs tail) := rfl
    rw [e, itemsF_cons (isCons_consT _ _) rfl, itemsF_listT xs tail g h (by simpa using hf)]
theorem items_lst (codes : Bool) (bs : List UInt8) : itemsF (lst codes bs).size (lst codes bs) = (bs.map (byteT codes), nilT) :=
  itemsF_listT _ _ _ (isCons_atom _) (by rw [lst_size, List.length_map]; omega)
theorem ok_lst (codes : Bool) (bs : List UInt8) (h : bs.length ≤ 1000) : OkList codes (lst codes bs) bs := by
  refine ⟨⟨by rw [lst_size]; omega, bs.map (byteT codes), nilT, items_lst codes bs, by simp, fun i h h' => ?_, rfl, rfl⟩, h, ?_⟩
  · rw [List.getElem_map]; exact isByte_byteT _ _
  · have := fold_ok (1 + bs.length) ((lst codes bs).flat 1) (false, 0, 0) rfl (fun y hy => lst_flat codes bs 1 y hy) (by simp only; omega)
    rw [Tm.length_flat, lst_size] at this
    simp only [checkE, measure, this.1, this.2.1, Bool.false_eq_true, if_false]
    rw [if_neg (by omega), if_neg (by omega)]
end Go.Proofs.YtkjkckdjenjgdaaDoor
