/- Plain laws on map literals with string keys: each key is a constant; a look-up of a constant. Nothing of the dump. -/
import Derived.Test.YtkjkckdjenjgdaaDoorLib
import Derived.Laws.Entries
namespace Go.Proofs.YtkjkckdjenjgdaaDoor
open Go Go.RowKit

def strMiss (key : ByteArray) (es : List MapEntry) : Bool := es.all fun e => match e.key with | .string s => !(key == s) | _ => false
def strFind (key : ByteArray) : List MapEntry → Option Value
  | [] => none
  | e :: es => match e.key with
    | .string s => if key == s then some e.val else strFind key es
    | _ => none
theorem findNow_miss (key : ByteArray) : ∀ (es : List MapEntry) (i : Nat), strMiss key es = true → Instr.findNow .string (.string key) es i = some none
  | [], _, _ => rfl
  | e :: es, i, h => by
    simp only [strMiss, List.all_cons, Bool.and_eq_true] at h
    obtain ⟨h1, h2⟩ := h
    unfold Instr.findNow
    split at h1
    · rename_i s hs
      rw [hs]
      have : (key == s) = false := by simpa using h1
      simp only [Instr.sameNow, this]
      exact findNow_miss key es (i + 1) h2
    · cases h1
theorem findNow_find (key : ByteArray) (v : Value) : ∀ (es : List MapEntry) (i : Nat), strFind key es = some v → ∃ j, Instr.findNow .string (.string key) es i = some (some (j, v))
  | [], _, h => by simp [strFind] at h
  | e :: es, i, h => by
    unfold strFind at h
    unfold Instr.findNow
    split at h
    · rename_i s hs
      rw [hs]
      by_cases hk : (key == s) = true
      · rw [if_pos hk] at h
        simp only [Option.some.injEq] at h
        subst h
        exact ⟨i, by simp only [Instr.sameNow, hk]⟩
      · have hk' : (key == s) = false := by simpa using hk
        rw [if_neg hk] at h
        simp only [Instr.sameNow, hk']
        exact findNow_find key v es (i + 1) h
    · cases h

section
variable {P : Program}
theorem run_checkKey_string {K : TypeId} (hK : P.underlying K = some .string) (b : Bool) (n : Nat) (s : ByteArray) (w : World) : (Instr.checkKey b (n + 1) K (.string s)).run P w = .ok () w := by
  simp [Instr.checkKey, run_underlying hK]
theorem run_insert_str (T K E : TypeId) (hT : P.underlying T = some (.map K E)) (hK : P.underlying K = some .string) (w : World) (es : Array MapEntry) (clock : Nat) (key : ByteArray) (v : Value) (hm : strMiss key es.toList = true) :
    (Instr.mapUpdate T (.map (some w.heap.size)) (.string key) v).run P (w.alloc (.map es clock)) = .ok () (w.alloc (.map (es.push ⟨.string key, v, clock⟩) (clock + 1))) := by
  have hb : (w.alloc (.map es clock)).heap[w.heap.size]? = some (.map es clock) := heap_alloc_new w _
  have hfk := findNow_miss key es.toList 0 hm
  have hset : ((w.alloc (.map es clock)).heap.setIfInBounds w.heap.size (.map (es.push ⟨.string key, v, clock⟩) (clock + 1))) = (w.alloc (.map (es.push ⟨.string key, v, clock⟩) (clock + 1))).heap := by
    show (w.heap.push _).setIfInBounds _ _ = w.heap.push _
    apply Array.ext_getElem?
    intro k
    simp only [Array.getElem?_setIfInBounds, Array.getElem?_push, Array.size_push]
    by_cases hk : w.heap.size = k
    · subst hk; simp
    · have : ¬ k = w.heap.size := fun e => hk e.symm
      simp [hk, this]
  have hck := run_checkKey_string hK false 9999 key (w.alloc (.map es clock))
  have hfind : (Instr.findKey K (.string key) es.toList).run P (w.alloc (.map es clock)) = .ok none (w.alloc (.map es clock)) := by
    simp [Instr.findKey, run_underlying hK, hfk]
  have hw : ({ (w.alloc (.map es clock)) with heap := (w.alloc (.map es clock)).heap.setIfInBounds w.heap.size (.map (es.push ⟨.string key, v, clock⟩) (clock + 1)) } : World) = w.alloc (.map (es.push ⟨.string key, v, clock⟩) (clock + 1)) := by
    rw [hset]; rfl
  simp only [Instr.mapUpdate, Sem.run_bind, run_underlying hT, Result.andThen, getObj, Sem.run, hb, hck, hfind, setObj, hw]
theorem run_lookup_str (T K E : TypeId) (hT : P.underlying T = some (.map K E)) (hK : P.underlying K = some .string) (w : World) (N : Nat) (es : Array MapEntry) (clock : Nat) (key : ByteArray) (v : Value) (hb : w.heap[N]? = some (.map es clock)) (hm : strFind key es.toList = some v) :
    (Instr.lookup T (.map (some N)) (.string key) false).run P w = .ok v w := by
  obtain ⟨j, hfk⟩ := findNow_find key v es.toList 0 hm
  have hck : (Instr.checkKey es.isEmpty 10000 K (.string key)).run P w = .ok () w := run_checkKey_string hK es.isEmpty 9999 key w
  have hfind : (Instr.findKey K (.string key) es.toList).run P w = .ok (some (j, v)) w := by
    simp [Instr.findKey, run_underlying hK, hfk]
  simp only [Instr.lookup, Sem.run_bind, run_underlying hT, Result.andThen, getObj, Sem.run, hb]
  simp [hck, hfind]

theorem wpList_insert_str {w : World} {ops : Array Oper} {rest : List Oper} {o : Oper} {a : Act} {Q : Exit → Act → World → Prop} (hgd : o.guard = none) (T K E : TypeId) (m k x : Operand) (hop : o.op = .insert T m k x)
    (hT : P.underlying T = some (.map K E)) (hK : P.underlying K = some .string) (es : Array MapEntry) (clock : Nat) (key : ByteArray) (v : Value) (N : Nat) (hN : w.heap.size = N)
    (hm : a.eval m = .map (some N)) (hk : a.eval k = .string key) (hv : a.eval x = v) (hmiss : strMiss key es.toList = true)
    (h : wpList P ops Q rest (a.put o.dst undef) (w.alloc (.map (es.push ⟨.string key, v, clock⟩) (clock + 1)))) : wpList P ops Q (o :: rest) a (w.alloc (.map es clock)) := by
  subst hN
  refine wpList_plain hgd fun K' hK' => ?_
  have hrun := run_insert_str T K E hT hK w es clock key v hmiss
  unfold Oper.wp
  simp [execOp, hop, hm, hk, hv, hrun, Result.andThen]
  exact hK' _ _ h
theorem wpList_lookup_str {w : World} {ops : Array Oper} {rest : List Oper} {o : Oper} {a : Act} {Q : Exit → Act → World → Prop} (hgd : o.guard = none) (T K E : TypeId) (m k : Operand) (hop : o.op = .lookup T m k false)
    (hT : P.underlying T = some (.map K E)) (hK : P.underlying K = some .string) (es : Array MapEntry) (clock : Nat) (key : ByteArray) (v : Value) (N : Nat) (hb : w.heap[N]? = some (.map es clock))
    (hm : a.eval m = .map (some N)) (hk : a.eval k = .string key) (hfind : strFind key es.toList = some v)
    (h : wpList P ops Q rest (a.put o.dst v) w) : wpList P ops Q (o :: rest) a w := by
  refine wpList_plain hgd fun K' hK' => ?_
  have hrun := run_lookup_str T K E hT hK w N es clock key v hb hfind
  unfold Oper.wp
  simp [execOp, hop, hm, hk, hrun, Result.andThen]
  exact hK' _ _ h
end
end Go.Proofs.YtkjkckdjenjgdaaDoor
