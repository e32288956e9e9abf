/- text.Do of a row that lies in a block: atom_length of an atom, atom_chars and atom_codes of a variable and a good list. -/
import Derived.Test.YtkjkckdjenjgdaaDoorJoin
import Derived.Test.YtkjkckdjenjgdaaDoorSpell
namespace Go.Proofs.YtkjkckdjenjgdaaDoor
open Go Go.RowKit

theorem do_len_row (s : ByteArray) (n : Int) (a1 a2 : Option Addr) (c1 c2 B : Nat) (Y : World) (hs : s.size ≤ 1000) (hn : 0 ≤ n)
    (h : Y.heap[B]? = some (.cells #[.int .i64 3, .int .i64 0, .string s, .slice a1 0 c1, .int .i64 1, .int .i64 n, .string ⟨#[]⟩, .slice a2 0 c2] 28 (0, 0))) :
    Calls Tryd.prog 10 #[.string ⟨#[97, 116, 111, 109, 95, 108, 101, 110, 103, 116, 104]⟩, .slice (some ⟨B, 0, none⟩) 2 2] Y fun e w' => Ret (fun v w' => ∃ dv, v = .tuple #[dv, .int .i64 0] ∧ DidV w' (fun b => Y.heap.size ≤ b) (didIs 1 (intT s.size)) dv ∧ Below Y.heap.size Y w') e w' := by
  have hT : TmsC Y (fun _ => True) [atomT s, varT n] B 0 := by
    have hnil : ∀ (a : Option Addr) (c : Nat), SlC Y (fun _ => True) [] a c := fun a c => ⟨Nat.zero_le _, fun h => by simp at h⟩
    simp only [TmsC, and_true]
    exact ⟨TmC.iff.2 ⟨trivial, cell_of_block h 0 (by simp), cell_of_block h 1 (by simp), cell_of_block h 2 (by simp), a1, c1, cell_of_block h 3 (by simp), hnil _ _⟩,
      TmC.iff.2 ⟨trivial, cell_of_block h 4 (by simp), cell_of_block h 5 (by simp), cell_of_block h 6 (by simp), a2, c2, cell_of_block h 7 (by simp), hnil _ _⟩⟩
  show Calls Tryd.prog 10 #[.string nmLength, .slice (some ⟨B, 0, none⟩) 2 2] Y _
  refine do_length _ B 0 2 Y _ _ rfl hT (by simp) ?_ fun w' hw' => length_atom s _ B 0 2 w' _ hw' rfl (by omega)
  intro x hx
  simp only [List.mem_cons, List.not_mem_nil, or_false] at hx
  rcases hx with rfl | rfl
  · exact check_leaf rfl (may_atom _ (by omega))
  · exact check_leaf rfl (may_var _ hn)
/-- A good list that may be. -/
structure OkList (codes : Bool) (t : Tm) (bs : List UInt8) : Prop where
  good : GoodList codes t bs
  len : bs.length ≤ 1000
  ok : checkE t = 0
theorem do_chars_row (n : Int) (t : Tm) (bs : List UInt8) (a1 a2 : Option Addr) (c1 c2 B : Nat) (Y : World) (I : Nat → Prop) (hn : 0 ≤ n) (ht : OkList false t bs)
    (h : Y.heap[B]? = some (.cells #[.int .i64 1, .int .i64 n, .string ⟨#[]⟩, .slice a1 0 c1, .int .i64 t.kind, .int .i64 t.n, .string t.s, .slice a2 t.args.length c2] 28 (0, 0))) (hsl : SlC Y I t.args a2 c2) :
    Calls Tryd.prog 10 #[.string ⟨#[97, 116, 111, 109, 95, 99, 104, 97, 114, 115]⟩, .slice (some ⟨B, 0, none⟩) 2 2] Y fun e w' => Ret (fun v w' => ∃ dv, v = .tuple #[dv, .int .i64 0] ∧ DidV w' (fun b => Y.heap.size ≤ b) (didIs 0 (atomT ⟨bs.toArray⟩)) dv ∧ Below Y.heap.size Y w') e w' := by
  have hT : TmsC Y (fun _ => True) [varT n, t] B 0 := by
    have hnil : ∀ (a : Option Addr) (c : Nat), SlC Y (fun _ => True) [] a c := fun a c => ⟨Nat.zero_le _, fun h => by simp at h⟩
    simp only [TmsC, and_true]
    exact ⟨TmC.iff.2 ⟨trivial, cell_of_block h 0 (by simp), cell_of_block h 1 (by simp), cell_of_block h 2 (by simp), a1, c1, cell_of_block h 3 (by simp), hnil _ _⟩,
      TmC.iff.2 ⟨trivial, cell_of_block h 4 (by simp), cell_of_block h 5 (by simp), cell_of_block h 6 (by simp), a2, c2, cell_of_block h 7 (by simp), hsl.mono fun _ _ => trivial⟩⟩
  show Calls Tryd.prog 10 #[.string nmChars, .slice (some ⟨B, 0, none⟩) 2 2] Y _
  refine do_chars _ B 0 2 Y _ _ rfl hT (by simp) ?_ fun w' hw' => chars_var _ t bs B 0 2 w' _ hw' rfl ht.good ht.len
  intro x hx
  simp only [List.mem_cons, List.not_mem_nil, or_false] at hx
  rcases hx with rfl | rfl
  · exact check_leaf rfl (may_var _ hn)
  · exact ⟨ht.ok, ht.good.small⟩
theorem do_codes_row (n : Int) (t : Tm) (bs : List UInt8) (a1 a2 : Option Addr) (c1 c2 B : Nat) (Y : World) (I : Nat → Prop) (hn : 0 ≤ n) (ht : OkList true t bs)
    (h : Y.heap[B]? = some (.cells #[.int .i64 1, .int .i64 n, .string ⟨#[]⟩, .slice a1 0 c1, .int .i64 t.kind, .int .i64 t.n, .string t.s, .slice a2 t.args.length c2] 28 (0, 0))) (hsl : SlC Y I t.args a2 c2) :
    Calls Tryd.prog 10 #[.string ⟨#[97, 116, 111, 109, 95, 99, 111, 100, 101, 115]⟩, .slice (some ⟨B, 0, none⟩) 2 2] Y fun e w' => Ret (fun v w' => ∃ dv, v = .tuple #[dv, .int .i64 0] ∧ DidV w' (fun b => Y.heap.size ≤ b) (didIs 0 (atomT ⟨bs.toArray⟩)) dv ∧ Below Y.heap.size Y w') e w' := by
  have hT : TmsC Y (fun _ => True) [varT n, t] B 0 := by
    have hnil : ∀ (a : Option Addr) (c : Nat), SlC Y (fun _ => True) [] a c := fun a c => ⟨Nat.zero_le _, fun h => by simp at h⟩
    simp only [TmsC, and_true]
    exact ⟨TmC.iff.2 ⟨trivial, cell_of_block h 0 (by simp), cell_of_block h 1 (by simp), cell_of_block h 2 (by simp), a1, c1, cell_of_block h 3 (by simp), hnil _ _⟩,
      TmC.iff.2 ⟨trivial, cell_of_block h 4 (by simp), cell_of_block h 5 (by simp), cell_of_block h 6 (by simp), a2, c2, cell_of_block h 7 (by simp), hsl.mono fun _ _ => trivial⟩⟩
  show Calls Tryd.prog 10 #[.string nmCodes, .slice (some ⟨B, 0, none⟩) 2 2] Y _
  refine do_codes _ B 0 2 Y _ _ rfl hT (by simp) ?_ fun w' hw' => codes_var _ t bs B 0 2 w' _ hw' rfl ht.good ht.len
  intro x hx
  simp only [List.mem_cons, List.not_mem_nil, or_false] at hx
  rcases hx with rfl | rfl
  · exact check_leaf rfl (may_var _ hn)
  · exact ⟨ht.ok, ht.good.small⟩
end Go.Proofs.YtkjkckdjenjgdaaDoor
