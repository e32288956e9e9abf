/- The walk over text.listOf. -/
import Derived.Test.YtkjkckdjenjgdaaDoorGood
import Derived.OwnWalk
import Derived.Deep.AppendLies
namespace Go.Proofs.YtkjkckdjenjgdaaDoor
open Go Go.RowKit

def byteI (codes : Bool) (b : UInt8) : AbI := ⟨byteT codes b, none, 0, 0⟩
structure LORel (W1 : World) (base : Nat) (codes : Bool) (bs : List UInt8) (k : Nat) (v i : Value) (wr : World) (j : Nat) : Prop where
  le : j ≤ bs.length
  k : k = bs.length - j
  i : i = .int .i64 (j : Int)
  stk : Stk wr base 28 4 AbI.cells4 v ((bs.take j).map (byteI codes))
  be : Below base W1 wr
theorem byteI_t (codes : Bool) (bs : List UInt8) : (bs.map (byteI codes)).map (·.t) = bs.map (byteT codes) := by rw [List.map_map]; rfl
theorem take_snoc' (codes : Bool) (bs : List UInt8) (j : Nat) (h : j < bs.length) : (bs.take (j + 1)).map (byteI codes) = (bs.take j).map (byteI codes) ++ [byteI codes bs[j]] := by
  rw [List.take_succ_eq_append_getElem h, List.map_append]; rfl
theorem length_bytes (s : ByteArray) : s.data.toList.length = s.size := Array.length_toList
theorem extract_one (s : ByteArray) (j : Nat) (h : j < s.size) : s.extract j (j + 1) = ⟨#[s[j]]⟩ := by
  apply ByteArray.ext
  rw [ByteArray.data_extract]
  apply Array.ext
  · simp; have : s.data.size = s.size := rfl; omega
  · intro i h1 h2
    have : i = 0 := by simp at h2; omega
    subst this
    simp
    rfl
theorem bytes_at (s : ByteArray) (j : Nat) (h : j < s.size) (h' : j < s.data.toList.length) : s.data.toList[j] = s[j] := rfl

set_option maxHeartbeats 2000000 in
set_option maxRecDepth 100000 in
theorem listOf_chars (s : ByteArray) (w : World) (hs : s.size ≤ 1000000) :
    Calls Tryd.prog 40 #[.string s, .bool false] w fun e w' => Ret (fun v w' => TmV w' (fun b => w.heap.size ≤ b) (lst false s.data.toList) v ∧ Below w.heap.size w w') e w' := by
  obtain ⟨i0, hi0, hz0, hz1, hz2⟩ := info_parts infoTermSl
  go_enter Tryd.func40, Tryd.ntmps40
  go_wp2_with (at_make; refine wpList_make_own _ rfl _ _ 24 rfl (w.heap.size + 1) 28 i0 (.agg #[.int .i64 0, .int .i64 0, .string ⟨#[]⟩, .slice none 0 0]) 4 Tryd.underlying24 hi0 hz0 hz1 .i64 .i64 _ s.size rfl rfl (by omega) (by rw [hz2]; omega) (by unfold maxLen; omega) (by simp) ?_; intro w0 hown0 hgrow0; have HG0 := Lib.hid (And.intro hown0 hgrow0); clear hown0 hgrow0)
  have hn0 : w.heap.size + 1 ≤ w0.heap.size := by have := HG0.out.2.size; simpa using this
  go_loopg [5, 12] s.size (fun k v i wr => ∃ j, LORel w0 (w.heap.size + 1) false s.data.toList k v i wr j)
  case atStart =>
    exact ⟨0, Nat.zero_le _, by rw [length_bytes]; rfl, rfl, by have h := HG0.out.1; rw [World.size_alloc] at h; exact h, Below.refl _ _⟩
  case round =>
    obtain ⟨j, Q⟩ := hrel
    obtain rfl := Q.i
    have hbl := length_bytes s
    have hjn : j ≤ s.size := by have := Q.le; omega
    have hbr := Q.be
    have hss := hbr.size
    have hgk : s.size - j ≤ gk := by have := Q.k; omega
    by_cases hlt : j < s.size
    · obtain ⟨va, vc, rfl⟩ := ownsRow_slice Q.stk
      have hln : ((s.data.toList.take j).map (byteI false)).length = j := by rw [List.length_map, List.length_take]; omega
      rw [hln]
      have HOW : Hid (wr.ownsRow (w.heap.size + 1) 28 4 (.slice va j vc) j (((s.data.toList.take j).map (byteI false)).flatMap AbI.cells4)) := by
        have h := Q.stk
        unfold Stk at h
        rw [hln] at h
        exact h
      have HQ := Lib.hid (And.intro Q (And.intro hbl hln))
      have hss' : w.heap.size + 1 ≤ wr.heap.size := by omega
      clear Q hbl hbr hln
      go_wp2_with fail
      rw [extract_one s j hlt]
      refine (atom_any _ _).mono ?_
      rintro e w2 ⟨rfl, hb2⟩
      have hs2 := hb2.size
      have HOW2 : Hid (w2.ownsRow (w.heap.size + 1) 28 4 (.slice va j vc) j (((s.data.toList.take j).map (byteI false)).flatMap AbI.cells4)) := by
        have h7 := Stk.fr (ι := AbI) (w := wr) (w' := w2) (base := w.heap.size + 1) (e := 28) (size := 4) (cel := AbI.cells4) (v := .slice va j vc) (L := (s.data.toList.take j).map (byteI false)) (M := fun b => b < wr.heap.size ∧ False) (by unfold Stk; rw [HQ.out.2.2]; exact HOW.out) (Fr.of_below hb2) fun k _ hk => hk.2
        unfold Stk at h7
        rw [HQ.out.2.2] at h7
        exact h7
      have HB2 := Lib.hid hb2
      have HM1 : Hid (j + 1 ≤ maxLen) := by show j + 1 ≤ maxLen; simp only [maxLen]; omega
      clear hb2
      dsimp only [Act.put, tmVal, atomT, intT, Tm.kind, Tm.n, Tm.s, Tm.args, List.length_nil]
      go_wp2_with (at_builtin; refine wpList_append_lies _ rfl (.tmp 24) (.tmp 31) 24 rfl (w.heap.size + 1) 28 i0 _ 4 56 Tryd.underlying24 hi0 hz0 hz1 hz2 rfl (by decide) (.slice va j vc) j _ rfl (by exact World.ownsRow.alloc HOW2.out _) ⟨w2.heap.size, 0, none⟩ 1 1 [.int .i64 3, .int .i64 0, .string ⟨#[s[j]]⟩, .slice none 0 0] rfl rfl (by exact World.news_of_block (heap_alloc_new _ _)) (by simp [Value.oneCell']) (by decide) HM1.out (by omega) (by simp; omega) _ rfl ?_; intro g4 cap4 w4 hown4 hgrow4 hat4 hlt4; have HG4 := Lib.hid (And.intro hown4 (And.intro hgrow4 hat4)); clear hown4 hgrow4 hat4 hlt4)
      go_roundg (s.size - (j + 1))
      case measure => omega
      case rel =>
        obtain ⟨hown4, hgrow4, hat4⟩ := HG4.out
        have hjb : j < s.data.toList.length := by rw [length_bytes]; exact hlt
        refine ⟨j + 1, hjb, by rw [length_bytes], by go_num, ?_, ?_⟩
        · rw [take_snoc' _ _ j hjb, bytes_at s j hlt hjb]
          refine Stk.push (x := byteI false s[j]) ?_
          rw [HQ.out.2.2]
          exact hown4
        · refine Below.grown ((HQ.out.1.be.trans (HB2.out.mono hss')).alloc (by omega) _) hgrow4 (by simp; omega) fun k hk => ?_
          exact (World.ownsRow.lt HOW2.out k hk).1
    · obtain rfl : j = s.size := by omega
      obtain ⟨va, vc, rfl⟩ := ownsRow_slice Q.stk
      have hall : s.data.toList.take s.size = s.data.toList := List.take_of_length_le (by rw [hbl]; exact Nat.le_refl _)
      have hst := Q.stk
      rw [hall] at hst
      rw [hall]
      rw [List.length_map, hbl]
      have hsl : SlC wr (fun b => w.heap.size + 1 ≤ b) (s.data.toList.map (byteT false)) va vc := by
        have h := SlC.of_stk (J := fun b => w.heap.size + 1 ≤ b) (L := s.data.toList.map (byteI false)) (by rw [List.length_map, hbl]; rw [List.length_map, hbl] at hst; exact hst) (fun b hb => hb) fun x hx => by
          obtain ⟨y, _, rfl⟩ := List.mem_map.1 hx
          refine ⟨by rw [show (byteI false y).t = byteT false y from rfl, byteT_args]; exact Nat.zero_le _, fun h => ?_⟩
          rw [show (byteI false y).t = byteT false y from rfl, byteT_args] at h
          simp at h
        rw [byteI_t] at h
        exact h
      have HSL := Lib.hid (And.intro hsl (And.intro hbr hbl))
      clear hall hst hsl Q hbr hbl hgk hjn
      go_wp2_with fail
      refine (atom_any _ _).mono ?_
      rintro e w2 ⟨rfl, hb2⟩
      have hs2 := hb2.size
      have hnil : SlC w2 (fun b => w.heap.size + 1 ≤ b) [] none 0 := ⟨Nat.zero_le _, fun h => by simp at h⟩
      have hh := list_any (fun b => w.heap.size + 1 ≤ b) (s.data.toList.map (byteT false)) nilT va none vc 0 w2 (HSL.out.1.below hb2) hnil (by rw [List.length_map, length_bytes]; exact hs) (fun t ht => by obtain ⟨y, _, rfl⟩ := List.mem_map.1 ht; rw [size_leaf _ (byteT_args _ _)]; omega) (by rw [size_leaf _ rfl]; omega)
      rw [List.length_map, length_bytes] at hh
      dsimp only [tmVal, nilT, atomT, Tm.kind, Tm.n, Tm.s, Tm.args, List.length_nil] at hh
      have HB2 := Lib.hid hb2
      clear hb2 hnil
      dsimp only [Act.put, tmVal, atomT, Tm.kind, Tm.n, Tm.s, Tm.args, List.length_nil]
      go_wp2_with fail
      (with_reducible refine Calls.mono hh ?_)
      clear hh
      rintro e w3 ⟨_, rfl, ⟨a3, c3, rfl, hs3⟩, hb3⟩
      have hr0 : w0.heap[w.heap.size]? = some (.cells #[.int .i64 0, .int .i64 0, .string ⟨#[]⟩, .slice none 0 0] 28 (0, 0)) := (HG0.out.2.block _ (by simp) (by simp)).trans (heap_alloc_new _ _)
      have hr3 : w3.heap[w.heap.size]? = some (.cells #[.int .i64 0, .int .i64 0, .string ⟨#[]⟩, .slice none 0 0] 28 (0, 0)) := by
        rw [hb3.block _ (by omega), HB2.out.block _ (by omega), HSL.out.2.1.block _ (by omega)]
        exact hr0
      have hbe0 : Below w.heap.size w w0 := ((Below.refl _ w).alloc (Nat.le_refl _) _).grown HG0.out.2 (by simp) (fun k hk => by simp at hk)
      have hbe : Below w.heap.size w w3 := hbe0.trans ((HSL.out.2.1.mono (by omega)).trans ((HB2.out.mono (by omega)).trans (hb3.mono (by omega))))
      have hs3z := hb3.size
      obtain ⟨T, hT⟩ : ∃ T, T = lst false s.data.toList := ⟨_, rfl⟩
      have he : listT (s.data.toList.map (byteT false)) (.mk 3 0 ⟨#[91, 93]⟩ []) = T := hT.symm
      rw [he] at hs3 ⊢
      have r0 := cell_of_block hr3 0 (by simp)
      simp only [List.getElem_toArray, List.getElem_cons_zero, List.getElem_cons_succ] at r0
      have f0 := frozen_of_block hr3 0
      have r1 := cell_of_block hr3 1 (by simp)
      simp only [List.getElem_toArray, List.getElem_cons_zero, List.getElem_cons_succ] at r1
      have f1 := frozen_of_block hr3 1
      have r2 := cell_of_block hr3 2 (by simp)
      simp only [List.getElem_toArray, List.getElem_cons_zero, List.getElem_cons_succ] at r2
      have f2 := frozen_of_block hr3 2
      have r3 := cell_of_block hr3 3 (by simp)
      simp only [List.getElem_toArray, List.getElem_cons_zero, List.getElem_cons_succ] at r3
      have f3 := frozen_of_block hr3 3
      have hl0 : w.heap.size < w3.heap.size := by omega
      have HE := Lib.hid (And.intro hs3 (And.intro hbe hT))
      clear hr0 hr3 hbe0 hbe hs3 hb3 hT he
      dsimp only [Act.put, tmVal]
      go_wp2_with fail
      refine bodyPost_ret (v := tmVal T a3 c3) (by simp only [results, Tryd.results40, tmVal]; go_simp) rfl ?_
      obtain ⟨hs3, hbe, rfl⟩ := HE.out
      have hset : Fr (· = w.heap.size) w3 ((((w3.setCell ⟨w.heap.size, 0, none⟩ (.int .i64 (lst false s.data.toList).kind)).setCell ⟨w.heap.size, 1, none⟩ (.int .i64 (lst false s.data.toList).n)).setCell ⟨w.heap.size, 2, none⟩ (.string (lst false s.data.toList).s)).setCell ⟨w.heap.size, 3, none⟩ (.slice a3 (lst false s.data.toList).args.length c3)) :=
        (((Fr.set1 _ _ _ _).trans (Fr.set1 _ _ _ _)).trans (Fr.set1 _ _ _ _)).trans (Fr.set1 _ _ _ _)
      exact ⟨_, rfl, ⟨a3, c3, rfl, (hs3.fr hset fun b hb e => by omega).mono fun b hb => by omega⟩, hbe.trans (hset.below hbe.size fun k hk => by omega)⟩

set_option maxHeartbeats 2000000 in
set_option maxRecDepth 100000 in
theorem listOf_codes (s : ByteArray) (w : World) (hs : s.size ≤ 1000000) :
    Calls Tryd.prog 40 #[.string s, .bool true] w fun e w' => Ret (fun v w' => TmV w' (fun b => w.heap.size ≤ b) (lst true s.data.toList) v ∧ Below w.heap.size w w') e w' := by
  obtain ⟨i0, hi0, hz0, hz1, hz2⟩ := info_parts infoTermSl
  go_enter Tryd.func40, Tryd.ntmps40
  go_wp2_with (at_make; refine wpList_make_own _ rfl _ _ 24 rfl (w.heap.size + 1) 28 i0 (.agg #[.int .i64 0, .int .i64 0, .string ⟨#[]⟩, .slice none 0 0]) 4 Tryd.underlying24 hi0 hz0 hz1 .i64 .i64 _ s.size rfl rfl (by omega) (by rw [hz2]; omega) (by unfold maxLen; omega) (by simp) ?_; intro w0 hown0 hgrow0; have HG0 := Lib.hid (And.intro hown0 hgrow0); clear hown0 hgrow0)
  have hn0 : w.heap.size + 1 ≤ w0.heap.size := by have := HG0.out.2.size; simpa using this
  go_loopg [5, 12] s.size (fun k v i wr => ∃ j, LORel w0 (w.heap.size + 1) true s.data.toList k v i wr j)
  case atStart =>
    exact ⟨0, Nat.zero_le _, by rw [length_bytes]; rfl, rfl, by have h := HG0.out.1; rw [World.size_alloc] at h; exact h, Below.refl _ _⟩
  case round =>
    obtain ⟨j, Q⟩ := hrel
    obtain rfl := Q.i
    have hbl := length_bytes s
    have hjn : j ≤ s.size := by have := Q.le; omega
    have hbr := Q.be
    have hss := hbr.size
    have hgk : s.size - j ≤ gk := by have := Q.k; omega
    by_cases hlt : j < s.size
    · obtain ⟨va, vc, rfl⟩ := ownsRow_slice Q.stk
      have hln : ((s.data.toList.take j).map (byteI true)).length = j := by rw [List.length_map, List.length_take]; omega
      rw [hln]
      have HOW : Hid (wr.ownsRow (w.heap.size + 1) 28 4 (.slice va j vc) j (((s.data.toList.take j).map (byteI true)).flatMap AbI.cells4)) := by
        have h := Q.stk
        unfold Stk at h
        rw [hln] at h
        exact h
      have HQ := Lib.hid (And.intro Q (And.intro hbl hln))
      have hss' : w.heap.size + 1 ≤ wr.heap.size := by omega
      clear Q hbl hbr hln
      go_wp2_with fail
      rw [IntWalk.wrap64_in (s[j].toNat : Int) (by have := UInt8.toNat_lt s[j]; omega)]
      refine (whole_any _ _).mono ?_
      rintro e w2 ⟨rfl, hb2⟩
      have hs2 := hb2.size
      have HOW2 : Hid (w2.ownsRow (w.heap.size + 1) 28 4 (.slice va j vc) j (((s.data.toList.take j).map (byteI true)).flatMap AbI.cells4)) := by
        have h7 := Stk.fr (ι := AbI) (w := wr) (w' := w2) (base := w.heap.size + 1) (e := 28) (size := 4) (cel := AbI.cells4) (v := .slice va j vc) (L := (s.data.toList.take j).map (byteI true)) (M := fun b => b < wr.heap.size ∧ False) (by unfold Stk; rw [HQ.out.2.2]; exact HOW.out) (Fr.of_below hb2) fun k _ hk => hk.2
        unfold Stk at h7
        rw [HQ.out.2.2] at h7
        exact h7
      have HB2 := Lib.hid hb2
      have HM1 : Hid (j + 1 ≤ maxLen) := by show j + 1 ≤ maxLen; simp only [maxLen]; omega
      clear hb2
      dsimp only [Act.put, tmVal, atomT, intT, Tm.kind, Tm.n, Tm.s, Tm.args, List.length_nil]
      go_wp2_with (at_builtin; refine wpList_append_lies _ rfl (.tmp 16) (.tmp 22) 24 rfl (w.heap.size + 1) 28 i0 _ 4 56 Tryd.underlying24 hi0 hz0 hz1 hz2 rfl (by decide) (.slice va j vc) j _ rfl (by exact World.ownsRow.alloc HOW2.out _) ⟨w2.heap.size, 0, none⟩ 1 1 [.int .i64 2, .int .i64 s[j].toNat, .string ⟨#[]⟩, .slice none 0 0] rfl rfl (by exact World.news_of_block (heap_alloc_new _ _)) (by simp [Value.oneCell']) (by decide) HM1.out (by omega) (by simp; omega) _ rfl ?_; intro g4 cap4 w4 hown4 hgrow4 hat4 hlt4; have HG4 := Lib.hid (And.intro hown4 (And.intro hgrow4 hat4)); clear hown4 hgrow4 hat4 hlt4)
      go_roundg (s.size - (j + 1))
      case measure => omega
      case rel =>
        obtain ⟨hown4, hgrow4, hat4⟩ := HG4.out
        have hjb : j < s.data.toList.length := by rw [length_bytes]; exact hlt
        refine ⟨j + 1, hjb, by rw [length_bytes], by go_num, ?_, ?_⟩
        · rw [take_snoc' _ _ j hjb, bytes_at s j hlt hjb]
          refine Stk.push (x := byteI true s[j]) ?_
          rw [HQ.out.2.2]
          exact hown4
        · refine Below.grown ((HQ.out.1.be.trans (HB2.out.mono hss')).alloc (by omega) _) hgrow4 (by simp; omega) fun k hk => ?_
          exact (World.ownsRow.lt HOW2.out k hk).1
    · obtain rfl : j = s.size := by omega
      obtain ⟨va, vc, rfl⟩ := ownsRow_slice Q.stk
      have hall : s.data.toList.take s.size = s.data.toList := List.take_of_length_le (by rw [hbl]; exact Nat.le_refl _)
      have hst := Q.stk
      rw [hall] at hst
      rw [hall]
      rw [List.length_map, hbl]
      have hsl : SlC wr (fun b => w.heap.size + 1 ≤ b) (s.data.toList.map (byteT true)) va vc := by
        have h := SlC.of_stk (J := fun b => w.heap.size + 1 ≤ b) (L := s.data.toList.map (byteI true)) (by rw [List.length_map, hbl]; rw [List.length_map, hbl] at hst; exact hst) (fun b hb => hb) fun x hx => by
          obtain ⟨y, _, rfl⟩ := List.mem_map.1 hx
          refine ⟨by rw [show (byteI true y).t = byteT true y from rfl, byteT_args]; exact Nat.zero_le _, fun h => ?_⟩
          rw [show (byteI true y).t = byteT true y from rfl, byteT_args] at h
          simp at h
        rw [byteI_t] at h
        exact h
      have HSL := Lib.hid (And.intro hsl (And.intro hbr hbl))
      clear hall hst hsl Q hbr hbl hgk hjn
      go_wp2_with fail
      refine (atom_any _ _).mono ?_
      rintro e w2 ⟨rfl, hb2⟩
      have hs2 := hb2.size
      have hnil : SlC w2 (fun b => w.heap.size + 1 ≤ b) [] none 0 := ⟨Nat.zero_le _, fun h => by simp at h⟩
      have hh := list_any (fun b => w.heap.size + 1 ≤ b) (s.data.toList.map (byteT true)) nilT va none vc 0 w2 (HSL.out.1.below hb2) hnil (by rw [List.length_map, length_bytes]; exact hs) (fun t ht => by obtain ⟨y, _, rfl⟩ := List.mem_map.1 ht; rw [size_leaf _ (byteT_args _ _)]; omega) (by rw [size_leaf _ rfl]; omega)
      rw [List.length_map, length_bytes] at hh
      dsimp only [tmVal, nilT, atomT, Tm.kind, Tm.n, Tm.s, Tm.args, List.length_nil] at hh
      have HB2 := Lib.hid hb2
      clear hb2 hnil
      dsimp only [Act.put, tmVal, atomT, Tm.kind, Tm.n, Tm.s, Tm.args, List.length_nil]
      go_wp2_with fail
      (with_reducible refine Calls.mono hh ?_)
      clear hh
      rintro e w3 ⟨_, rfl, ⟨a3, c3, rfl, hs3⟩, hb3⟩
      have hr0 : w0.heap[w.heap.size]? = some (.cells #[.int .i64 0, .int .i64 0, .string ⟨#[]⟩, .slice none 0 0] 28 (0, 0)) := (HG0.out.2.block _ (by simp) (by simp)).trans (heap_alloc_new _ _)
      have hr3 : w3.heap[w.heap.size]? = some (.cells #[.int .i64 0, .int .i64 0, .string ⟨#[]⟩, .slice none 0 0] 28 (0, 0)) := by
        rw [hb3.block _ (by omega), HB2.out.block _ (by omega), HSL.out.2.1.block _ (by omega)]
        exact hr0
      have hbe0 : Below w.heap.size w w0 := ((Below.refl _ w).alloc (Nat.le_refl _) _).grown HG0.out.2 (by simp) (fun k hk => by simp at hk)
      have hbe : Below w.heap.size w w3 := hbe0.trans ((HSL.out.2.1.mono (by omega)).trans ((HB2.out.mono (by omega)).trans (hb3.mono (by omega))))
      have hs3z := hb3.size
      obtain ⟨T, hT⟩ : ∃ T, T = lst true s.data.toList := ⟨_, rfl⟩
      have he : listT (s.data.toList.map (byteT true)) (.mk 3 0 ⟨#[91, 93]⟩ []) = T := hT.symm
      rw [he] at hs3 ⊢
      have r0 := cell_of_block hr3 0 (by simp)
      simp only [List.getElem_toArray, List.getElem_cons_zero, List.getElem_cons_succ] at r0
      have f0 := frozen_of_block hr3 0
      have r1 := cell_of_block hr3 1 (by simp)
      simp only [List.getElem_toArray, List.getElem_cons_zero, List.getElem_cons_succ] at r1
      have f1 := frozen_of_block hr3 1
      have r2 := cell_of_block hr3 2 (by simp)
      simp only [List.getElem_toArray, List.getElem_cons_zero, List.getElem_cons_succ] at r2
      have f2 := frozen_of_block hr3 2
      have r3 := cell_of_block hr3 3 (by simp)
      simp only [List.getElem_toArray, List.getElem_cons_zero, List.getElem_cons_succ] at r3
      have f3 := frozen_of_block hr3 3
      have hl0 : w.heap.size < w3.heap.size := by omega
      have HE := Lib.hid (And.intro hs3 (And.intro hbe hT))
      clear hr0 hr3 hbe0 hbe hs3 hb3 hT he
      dsimp only [Act.put, tmVal]
      go_wp2_with fail
      refine bodyPost_ret (v := tmVal T a3 c3) (by simp only [results, Tryd.results40, tmVal]; go_simp) rfl ?_
      obtain ⟨hs3, hbe, rfl⟩ := HE.out
      have hset : Fr (· = w.heap.size) w3 ((((w3.setCell ⟨w.heap.size, 0, none⟩ (.int .i64 (lst true s.data.toList).kind)).setCell ⟨w.heap.size, 1, none⟩ (.int .i64 (lst true s.data.toList).n)).setCell ⟨w.heap.size, 2, none⟩ (.string (lst true s.data.toList).s)).setCell ⟨w.heap.size, 3, none⟩ (.slice a3 (lst true s.data.toList).args.length c3)) :=
        (((Fr.set1 _ _ _ _).trans (Fr.set1 _ _ _ _)).trans (Fr.set1 _ _ _ _)).trans (Fr.set1 _ _ _ _)
      exact ⟨_, rfl, ⟨a3, c3, rfl, (hs3.fr hset fun b hb e => by omega).mono fun b hb => by omega⟩, hbe.trans (hset.below hbe.size fun k hk => by omega)⟩
end Go.Proofs.YtkjkckdjenjgdaaDoor
