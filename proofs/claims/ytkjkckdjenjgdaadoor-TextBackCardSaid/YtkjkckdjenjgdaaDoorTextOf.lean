/- The walk over text.textOf, of a list of one-letter atoms, or of codes. -/
import Derived.Test.YtkjkckdjenjgdaaDoorDid
import Derived.Test.YtkjkckdjenjgdaaDoorItems2
import Derived.Laws.IdiomStrings
import Derived.Deep.AppendLies
namespace Go.Proofs.YtkjkckdjenjgdaaDoor
open Go Go.RowKit

/-- An item is the byte b: as a character, or as a code. -/
def isByte (codes : Bool) (t : Tm) (b : UInt8) : Prop := if codes then t.kind = 2 ∧ t.n = b.toNat else t.kind = 3 ∧ t.s = ⟨#[b]⟩
def byteCells (bs : List UInt8) : List Value := bs.map fun b => .int .u8 b.toNat
theorem byteCells_snoc (bs : List UInt8) (j : Nat) (h : j < bs.length) : byteCells (bs.take (j + 1)) = byteCells (bs.take j) ++ [.int .u8 bs[j].toNat] := by
  simp only [byteCells]; rw [List.take_succ_eq_append_getElem h, List.map_append]; rfl
theorem length_byteCells (bs : List UInt8) : (byteCells bs).length = bs.length := by simp [byteCells]
theorem infoU8 : (Tryd.prog.info? 5).map (fun i => (i.zero, i.size, i.bytes)) = some (some (.int .u8 0), 1, 1) := by kernel_rfl
/-- 'string(b)' of a row of the call's own. -/
theorem run_string_own {w : World} {base : Nat} {v : Value} {bs : List UInt8} (h : w.ownsRow base 5 1 v bs.length (byteCells bs)) : (convert 72 9 v).run Tryd.prog w = .ok (.string ⟨bs.toArray⟩) w := by
  have h0 := h
  obtain ⟨_, h2⟩ := h
  rcases h2 with ⟨rfl, h3⟩ | ⟨g, cap, cur, rfl, hg, hh, hn, hcap, hsz, htake⟩
  · have : bs = [] := List.eq_nil_of_length_eq_zero h3
    subst this
    rw [run_convert_bytes_string w 72 9 5 none 0 0 Tryd.underlying72 Tryd.underlying5 Tryd.underlying9]
    rfl
  · refine run_convert_bytes_back w 72 9 5 ⟨g, 0, none⟩ cap bs Tryd.underlying72 Tryd.underlying5 Tryd.underlying9 fun j hj => ?_
    have := World.ownsRow.cellAt h0 j (by omega)
    have e : (⟨g, 0, none⟩ : Addr).add j = ⟨g, j, none⟩ := by simp [Addr.add]; intro h; exact h.symm
    rw [e, this, byteCells, List.getElem?_map, List.getElem?_eq_getElem hj]
    rfl
theorem ownsRow_slice {w : World} {base : Nat} {e : TypeId} {size : Nat} {v : Value} {n : Nat} {xs : List Value} (h : w.ownsRow base e size v n xs) : ∃ a c, v = .slice a n c := by
  obtain ⟨_, h2⟩ := h
  rcases h2 with ⟨h2, h3⟩ | ⟨g, cap, cur, hv, _⟩
  · exact ⟨none, 0, by rw [h2, h3]⟩
  · exact ⟨_, _, hv⟩
theorem wpList_conv {P : Program} {w : World} {ops : Array Oper} {rest : List Oper} {o : Oper} {a : Act} {Q : Exit → Act → World → Prop} (hgd : o.guard = none) (S D : TypeId) (x : Operand) (hop : o.op = .convert S D x)
    (v u : Value) (hv : a.eval x = v) (hrun : (convert S D v).run P w = .ok u w) (h : wpList P ops Q rest (a.put o.dst u) w) : wpList P ops Q (o :: rest) a w := by
  refine wpList_plain hgd fun K' hK' => ?_
  unfold Oper.wp
  simp [execOp, hop, hv, hrun, Result.andThen]
  exact hK' _ _ h
structure TextRel (W1 : World) (bs : List UInt8) (k : Nat) (v i : Value) (wr : World) (j : Nat) : Prop where
  le : j ≤ bs.length
  k : k = bs.length - j
  i : i = .int .i64 (j : Int)
  own : wr.ownsRow W1.heap.size 5 1 v j (byteCells (bs.take j))
  be : Below W1.heap.size W1 wr

set_option maxHeartbeats 2000000 in
set_option maxRecDepth 100000 in
/-- 'textOf' of a list of one-letter atoms. -/
theorem textOf_chars (I : Nat → Prop) (t0 : Tm) (a : Option Addr) (c : Nat) (w : World) (bs : List UInt8) (tail : Tm) (its : List Tm) (hI : ∀ b, I b → b < w.heap.size) (ht : SlC w I t0.args a c) (hl : t0.size ≤ 1000000000) (hb : bs.length ≤ 1000000000)
    (hit : itemsF t0.size t0 = (its, tail)) (hil : its.length = bs.length) (hgood : ∀ (i : Nat) (h : i < its.length) (h' : i < bs.length), isByte false its[i] bs[i]) (hk : tail.kind = 3) (hts : tail.s = ⟨#[91, 93]⟩) :
    Calls Tryd.prog 42 #[tmVal t0 a c, .bool false] w fun e w' => e = .returned (.tuple #[.string ⟨bs.toArray⟩, tmVal noT none 0]) ∧ Below w.heap.size w w' := by
  simp only [tmVal]
  have HA := Lib.hid (And.intro hI (And.intro ht hl))
  have HG := Lib.hid (And.intro hit (And.intro hil (And.intro hgood (And.intro hk hts))))
  clear hI ht hl hit hil hgood hk hts
  go_enter Tryd.func42, Tryd.ntmps42
  go_wp2_with fail
  have hh := items_any I t0 a c ((w.alloc (.cells #[.int .i64 t0.kind, .int .i64 t0.n, .string t0.s, .slice a t0.args.length c] 28)).alloc (.cells #[.int .i64 0, .int .i64 0, .string ⟨#[]⟩, .slice none 0 0] 28)) (fun b h => by have := HA.out.1 b h; simp only [World.size_alloc]; omega) ((HA.out.2.1.alloc _).alloc _) HA.out.2.2
  rw [HG.out.1] at hh
  dsimp only [tmVal] at hh
  rw [HG.out.2.1, HG.out.2.2.2.1, HG.out.2.2.2.2] at hh
  obtain ⟨n, hn⟩ : ∃ n, n = bs.length := ⟨_, rfl⟩
  rw [← hn] at hh hb
  (with_reducible refine Calls.mono hh ?_)
  clear hh
  rintro e w2 ⟨_, rfl, a1, c1, a2, c2, rfl, hs1, hs2, hb2⟩
  obtain ⟨tn, htn⟩ : ∃ tn, tn = tail.n := ⟨_, rfl⟩
  obtain ⟨tl, htl⟩ : ∃ tl, tl = tail.args.length := ⟨_, rfl⟩
  rw [← htn, ← htl]
  clear htn htl
  have hsz2 := hb2.size
  simp only [World.size_alloc] at hsz2
  have H2 := Lib.hid (And.intro hs1 hb2)
  have HN := Lib.hid hn
  clear hs1 hs2 hb2 hn
  dsimp only [Act.put, tmVal]
  go_wp2_with fail
  obtain ⟨W1, hW1⟩ : ∃ W1, W1 = w2.alloc (.cells #[.int .i64 3, .int .i64 tn, .string ⟨#[91, 93]⟩, .slice a2 tl c2] 28) := ⟨_, rfl⟩
  rw [← hW1]
  have hbw : Below w.heap.size w W1 := by rw [hW1]; exact ((((Below.refl _ w).alloc (Nat.le_refl _) _).alloc (by simp) _).trans (H2.out.2.mono (by simp; omega))).alloc (by omega) _
  have hr : W1.heap[w.heap.size + 1]? = some (.cells #[.int .i64 0, .int .i64 0, .string ⟨#[]⟩, .slice none 0 0] 28 (0, 0)) := by
    rw [hW1]; refine heap_old' (by omega) ?_; rw [H2.out.2.block _ (by simp)]; exact heap_new' (by simp)
  have htl7 : W1.heap[w2.heap.size]? = some (.cells #[.int .i64 3, .int .i64 tn, .string ⟨#[91, 93]⟩, .slice a2 tl c2] 28 (0, 0)) := by rw [hW1]; exact heap_alloc_new _ _
  have hits : SlC W1 (fun b => w.heap.size ≤ b ∧ b < W1.heap.size) its a1 c1 := by
    rw [hW1]
    exact ((H2.out.1.alloc _).there).mono fun b hb => ⟨by have := hb.1; simp only [World.size_alloc] at this; omega, hb.2⟩
  have hsz1 : w2.heap.size + 1 = W1.heap.size := by rw [hW1]; simp
  have HW := Lib.hid (And.intro hbw (And.intro hr (And.intro htl7 (And.intro hits (And.intro hsz1 (And.intro HN.out hW1))))))
  clear hbw hr htl7 hits hsz1 hW1
  go_loopg [8, 18] n (fun k v i wr => ∃ j, TextRel W1 bs k v i wr j)
  case atStart =>
    refine ⟨0, Nat.zero_le _, by rw [HW.out.2.2.2.2.2.1]; rfl, rfl, ?_, Below.refl _ _⟩
    exact World.ownsRow_nil _ _ _ _
  case round =>
    obtain ⟨j, Q⟩ := hrel
    obtain rfl := Q.i
    have hjn : j ≤ n := by have := Q.le; have := HW.out.2.2.2.2.2.1; omega
    have hbr := Q.be
    have hss := hbr.size
    have hgk : n - j ≤ gk := by have := Q.k; have := HN.out; omega
    have hs12 := HW.out.2.2.2.2.1
    by_cases hlt : j < n
    · have hjb : j < bs.length := by have := HW.out.2.2.2.2.2.1; omega
      have hji : j < its.length := by have := HG.out.2.1; omega
      have hits := HW.out.2.2.2.1
      obtain ⟨bb, oo, rfl, hts⟩ := hits.2 (by omega)
      obtain ⟨ax, px, y0, y1, y2, y3, hya⟩ := hts.cells j hji
      have hg := HG.out.2.2.1 j hji hjb
      simp only [isByte, Bool.false_eq_true, if_false] at hg
      rw [hg.1] at y0
      rw [hg.2] at y2
      have y0' := keep_below hbr y0
      have y1' := keep_below hbr y1
      have y2' := keep_below hbr y2
      have y3' := keep_below hbr y3
      have hlb := World.block_lt_of_cell? wr _ y0'
      simp only at hlb
      obtain ⟨ub, hub⟩ : ∃ ub, ub = bs[j] := ⟨_, rfl⟩
      rw [← hub] at y2'
      obtain ⟨fl, hfl⟩ : ∃ fl, fl = its[j].args.length := ⟨_, rfl⟩
      rw [← hfl] at y3'
      obtain ⟨fn, hfn⟩ : ∃ fn, fn = its[j].n := ⟨_, rfl⟩
      rw [← hfn] at y1'
      clear hfn
      have hub' : bs[j]? = some ub := by rw [hub]; exact List.getElem?_eq_getElem hjb
      have HQ := Lib.hid (And.intro Q hub')
      have hub8 : ub.toNat < 256 := UInt8.toNat_lt ub
      skip
      obtain ⟨va, vc, rfl⟩ := ownsRow_slice Q.own
      have HOW := Lib.hid Q.own
      clear Q hits hts y0 y1 y2 y3 hg hub hub' hya hfl hjb hji hbr
      obtain ⟨i0, hi0, hz0, hz1, hz2⟩ := info_parts infoU8
      have HM1 : Hid (j + 1 ≤ maxLen) := by show j + 1 ≤ maxLen; simp only [maxLen]; omega
      go_wp2_with (at_builtin; refine wpList_append_lies _ rfl (.tmp 71) (.tmp 75) 72 rfl W1.heap.size 5 i0 _ 1 1 Tryd.underlying72 hi0 hz0 hz1 hz2 rfl (by decide) (.slice va j vc) j _ rfl (by exact World.ownsRow.alloc (World.ownsRow.alloc HOW.out _) _) ⟨wr.heap.size + 1, 0, none⟩ 1 1 [.int .u8 ub.toNat] rfl rfl (by exact World.news_of_block (heap_new' (by simp))) (by simp [Value.oneCell']) (by decide) HM1.out (by omega) (by simp; omega) _ rfl ?_; intro g4 cap4 w4 hown4 hgrow4 hat4 hlt4; have HG4 := Lib.hid (And.intro hown4 (And.intro hgrow4 hat4)); clear hown4 hgrow4 hat4 hlt4)
      go_roundg (n - (j + 1))
      case measure => omega
      case rel =>
        obtain ⟨hown4, hgrow4, hat4⟩ := HG4.out
        have hjb : j < bs.length := (List.getElem?_eq_some_iff.1 HQ.out.2).1
        have hub : bs[j] = ub := (List.getElem?_eq_some_iff.1 HQ.out.2).2
        refine ⟨j + 1, hjb, by rw [← HN.out], by go_num, ?_, ?_⟩
        · rw [byteCells_snoc bs j hjb, hub]; exact hown4
        · refine Below.grown ((HQ.out.1.be.alloc hss _).alloc (by simp; omega) _) hgrow4 (by simp; omega) fun k hk => ?_
          have := World.ownsRow.lt HQ.out.1.own k hk
          exact this.1
    · obtain rfl : j = n := by omega
      obtain ⟨hbw, hr, ht7, _, _, _, _⟩ := HW.out
      have hjn : j = bs.length := HN.out
      have hr' : wr.heap[w.heap.size + 1]? = some (.cells #[.int .i64 0, .int .i64 0, .string ⟨#[]⟩, .slice none 0 0] 28 (0, 0)) := (hbr.block _ (by omega)).trans hr
      have ht' : wr.heap[w2.heap.size]? = some (.cells #[.int .i64 3, .int .i64 tn, .string ⟨#[91, 93]⟩, .slice a2 tl c2] 28 (0, 0)) := (hbr.block _ (by omega)).trans ht7
      have hown := Q.own
      rw [hjn, List.take_length] at hown
      have hcv := run_string_own hown
      obtain ⟨va, vc, rfl⟩ := ownsRow_slice hown
      rw [← hjn] at hcv ⊢
      have x0 := cell_of_block ht' 0 (by simp)
      simp only [List.getElem_toArray, List.getElem_cons_zero, List.getElem_cons_succ] at x0
      have x1 := cell_of_block ht' 1 (by simp)
      simp only [List.getElem_toArray, List.getElem_cons_zero, List.getElem_cons_succ] at x1
      have x2 := cell_of_block ht' 2 (by simp)
      simp only [List.getElem_toArray, List.getElem_cons_zero, List.getElem_cons_succ] at x2
      have x3 := cell_of_block ht' 3 (by simp)
      simp only [List.getElem_toArray, List.getElem_cons_zero, List.getElem_cons_succ] at x3
      have r0 := cell_of_block hr' 0 (by simp)
      simp only [List.getElem_toArray, List.getElem_cons_zero, List.getElem_cons_succ] at r0
      have f0 := frozen_of_block hr' 0
      have r1 := cell_of_block hr' 1 (by simp)
      simp only [List.getElem_toArray, List.getElem_cons_zero, List.getElem_cons_succ] at r1
      have f1 := frozen_of_block hr' 1
      have r2 := cell_of_block hr' 2 (by simp)
      simp only [List.getElem_toArray, List.getElem_cons_zero, List.getElem_cons_succ] at r2
      have f2 := frozen_of_block hr' 2
      have r3 := cell_of_block hr' 3 (by simp)
      simp only [List.getElem_toArray, List.getElem_cons_zero, List.getElem_cons_succ] at r3
      have f3 := frozen_of_block hr' 3
      have hl7 : w.heap.size + 1 < wr.heap.size := by omega
      have HE := Lib.hid (And.intro hbw (And.intro hbr hcv))
      clear hbw hr ht7 hr' ht' hown Q hbr hjn hlt hcv
      go_wp2_with ((with_reducible show wpList _ _ _ (Oper.mk (some 94) _ _ _ _ _ :: _) _ _); refine wpList_conv rfl 72 9 _ rfl _ _ rfl HE.out.2.2 ?_)
      refine bodyPost_ret (v := .tuple #[.string ⟨bs.toArray⟩, tmVal noT none 0]) (by simp only [results, Tryd.results42, tmVal, noT, Tm.kind, Tm.n, Tm.s, Tm.args, List.length_nil]; go_simp) rfl ⟨rfl, ?_⟩
      refine Below.setCell (Below.setCell (Below.setCell (Below.setCell (HE.out.1.trans (HE.out.2.1.mono (by omega))) ?_ _) ?_ _) ?_ _) ?_ _ <;> exact Nat.le_add_right _ 1

set_option maxHeartbeats 2000000 in
set_option maxRecDepth 100000 in
/-- 'textOf' of a list of bytes as numbers. -/
theorem textOf_codes (I : Nat → Prop) (t0 : Tm) (a : Option Addr) (c : Nat) (w : World) (bs : List UInt8) (tail : Tm) (its : List Tm) (hI : ∀ b, I b → b < w.heap.size) (ht : SlC w I t0.args a c) (hl : t0.size ≤ 1000000000) (hb : bs.length ≤ 1000000000)
    (hit : itemsF t0.size t0 = (its, tail)) (hil : its.length = bs.length) (hgood : ∀ (i : Nat) (h : i < its.length) (h' : i < bs.length), isByte true its[i] bs[i]) (hk : tail.kind = 3) (hts : tail.s = ⟨#[91, 93]⟩) :
    Calls Tryd.prog 42 #[tmVal t0 a c, .bool true] w fun e w' => e = .returned (.tuple #[.string ⟨bs.toArray⟩, tmVal noT none 0]) ∧ Below w.heap.size w w' := by
  simp only [tmVal]
  have HA := Lib.hid (And.intro hI (And.intro ht hl))
  have HG := Lib.hid (And.intro hit (And.intro hil (And.intro hgood (And.intro hk hts))))
  clear hI ht hl hit hil hgood hk hts
  go_enter Tryd.func42, Tryd.ntmps42
  go_wp2_with fail
  have hh := items_any I t0 a c ((w.alloc (.cells #[.int .i64 t0.kind, .int .i64 t0.n, .string t0.s, .slice a t0.args.length c] 28)).alloc (.cells #[.int .i64 0, .int .i64 0, .string ⟨#[]⟩, .slice none 0 0] 28)) (fun b h => by have := HA.out.1 b h; simp only [World.size_alloc]; omega) ((HA.out.2.1.alloc _).alloc _) HA.out.2.2
  rw [HG.out.1] at hh
  dsimp only [tmVal] at hh
  rw [HG.out.2.1, HG.out.2.2.2.1, HG.out.2.2.2.2] at hh
  obtain ⟨n, hn⟩ : ∃ n, n = bs.length := ⟨_, rfl⟩
  rw [← hn] at hh hb
  (with_reducible refine Calls.mono hh ?_)
  clear hh
  rintro e w2 ⟨_, rfl, a1, c1, a2, c2, rfl, hs1, hs2, hb2⟩
  obtain ⟨tn, htn⟩ : ∃ tn, tn = tail.n := ⟨_, rfl⟩
  obtain ⟨tl, htl⟩ : ∃ tl, tl = tail.args.length := ⟨_, rfl⟩
  rw [← htn, ← htl]
  clear htn htl
  have hsz2 := hb2.size
  simp only [World.size_alloc] at hsz2
  have H2 := Lib.hid (And.intro hs1 hb2)
  have HN := Lib.hid hn
  clear hs1 hs2 hb2 hn
  dsimp only [Act.put, tmVal]
  go_wp2_with fail
  obtain ⟨W1, hW1⟩ : ∃ W1, W1 = w2.alloc (.cells #[.int .i64 3, .int .i64 tn, .string ⟨#[91, 93]⟩, .slice a2 tl c2] 28) := ⟨_, rfl⟩
  rw [← hW1]
  have hbw : Below w.heap.size w W1 := by rw [hW1]; exact ((((Below.refl _ w).alloc (Nat.le_refl _) _).alloc (by simp) _).trans (H2.out.2.mono (by simp; omega))).alloc (by omega) _
  have hr : W1.heap[w.heap.size + 1]? = some (.cells #[.int .i64 0, .int .i64 0, .string ⟨#[]⟩, .slice none 0 0] 28 (0, 0)) := by
    rw [hW1]; refine heap_old' (by omega) ?_; rw [H2.out.2.block _ (by simp)]; exact heap_new' (by simp)
  have htl7 : W1.heap[w2.heap.size]? = some (.cells #[.int .i64 3, .int .i64 tn, .string ⟨#[91, 93]⟩, .slice a2 tl c2] 28 (0, 0)) := by rw [hW1]; exact heap_alloc_new _ _
  have hits : SlC W1 (fun b => w.heap.size ≤ b ∧ b < W1.heap.size) its a1 c1 := by
    rw [hW1]
    exact ((H2.out.1.alloc _).there).mono fun b hb => ⟨by have := hb.1; simp only [World.size_alloc] at this; omega, hb.2⟩
  have hsz1 : w2.heap.size + 1 = W1.heap.size := by rw [hW1]; simp
  have HW := Lib.hid (And.intro hbw (And.intro hr (And.intro htl7 (And.intro hits (And.intro hsz1 (And.intro HN.out hW1))))))
  clear hbw hr htl7 hits hsz1 hW1
  go_loopg [8, 18] n (fun k v i wr => ∃ j, TextRel W1 bs k v i wr j)
  case atStart =>
    refine ⟨0, Nat.zero_le _, by rw [HW.out.2.2.2.2.2.1]; rfl, rfl, ?_, Below.refl _ _⟩
    exact World.ownsRow_nil _ _ _ _
  case round =>
    obtain ⟨j, Q⟩ := hrel
    obtain rfl := Q.i
    have hjn : j ≤ n := by have := Q.le; have := HW.out.2.2.2.2.2.1; omega
    have hbr := Q.be
    have hss := hbr.size
    have hgk : n - j ≤ gk := by have := Q.k; have := HN.out; omega
    have hs12 := HW.out.2.2.2.2.1
    by_cases hlt : j < n
    · have hjb : j < bs.length := by have := HW.out.2.2.2.2.2.1; omega
      have hji : j < its.length := by have := HG.out.2.1; omega
      have hits := HW.out.2.2.2.1
      obtain ⟨bb, oo, rfl, hts⟩ := hits.2 (by omega)
      obtain ⟨ax, px, y0, y1, y2, y3, hya⟩ := hts.cells j hji
      have hg := HG.out.2.2.1 j hji hjb
      simp only [isByte, if_true] at hg
      rw [hg.1] at y0
      rw [hg.2] at y1
      have y0' := keep_below hbr y0
      have y1' := keep_below hbr y1
      have y2' := keep_below hbr y2
      have y3' := keep_below hbr y3
      have hlb := World.block_lt_of_cell? wr _ y0'
      simp only at hlb
      obtain ⟨ub, hub⟩ : ∃ ub, ub = bs[j] := ⟨_, rfl⟩
      rw [← hub] at y1'
      obtain ⟨fl, hfl⟩ : ∃ fl, fl = its[j].args.length := ⟨_, rfl⟩
      rw [← hfl] at y3'
      obtain ⟨fs, hfs⟩ : ∃ fs, fs = its[j].s := ⟨_, rfl⟩
      rw [← hfs] at y2'
      clear hfs
      have hub' : bs[j]? = some ub := by rw [hub]; exact List.getElem?_eq_getElem hjb
      have HQ := Lib.hid (And.intro Q hub')
      have hub8 : ub.toNat < 256 := UInt8.toNat_lt ub
      have hwr : IntKind.u8.wrap (ub.toNat : Int) = ub.toNat := by simp [IntKind.wrap, IntKind.bits, IntKind.signed]; omega
      obtain ⟨va, vc, rfl⟩ := ownsRow_slice Q.own
      have HOW := Lib.hid Q.own
      clear Q hits hts y0 y1 y2 y3 hg hub hub' hya hfl hjb hji hbr
      obtain ⟨i0, hi0, hz0, hz1, hz2⟩ := info_parts infoU8
      have HM1 : Hid (j + 1 ≤ maxLen) := by show j + 1 ≤ maxLen; simp only [maxLen]; omega
      go_wp2_with (at_builtin; refine wpList_append_lies _ rfl (.tmp 55) (.tmp 59) 72 rfl W1.heap.size 5 i0 _ 1 1 Tryd.underlying72 hi0 hz0 hz1 hz2 rfl (by decide) (.slice va j vc) j _ rfl (by exact World.ownsRow.alloc (World.ownsRow.alloc HOW.out _) _) ⟨wr.heap.size + 1, 0, none⟩ 1 1 [.int .u8 ub.toNat] rfl rfl (by exact World.news_of_block (heap_new' (by simp))) (by simp [Value.oneCell']) (by decide) HM1.out (by omega) (by simp; omega) _ rfl ?_; intro g4 cap4 w4 hown4 hgrow4 hat4 hlt4; have HG4 := Lib.hid (And.intro hown4 (And.intro hgrow4 hat4)); clear hown4 hgrow4 hat4 hlt4)
      go_roundg (n - (j + 1))
      case measure => omega
      case rel =>
        obtain ⟨hown4, hgrow4, hat4⟩ := HG4.out
        have hjb : j < bs.length := (List.getElem?_eq_some_iff.1 HQ.out.2).1
        have hub : bs[j] = ub := (List.getElem?_eq_some_iff.1 HQ.out.2).2
        refine ⟨j + 1, hjb, by rw [← HN.out], by go_num, ?_, ?_⟩
        · rw [byteCells_snoc bs j hjb, hub]; exact hown4
        · refine Below.grown ((HQ.out.1.be.alloc hss _).alloc (by simp; omega) _) hgrow4 (by simp; omega) fun k hk => ?_
          have := World.ownsRow.lt HQ.out.1.own k hk
          exact this.1
    · obtain rfl : j = n := by omega
      obtain ⟨hbw, hr, ht7, _, _, _, _⟩ := HW.out
      have hjn : j = bs.length := HN.out
      have hr' : wr.heap[w.heap.size + 1]? = some (.cells #[.int .i64 0, .int .i64 0, .string ⟨#[]⟩, .slice none 0 0] 28 (0, 0)) := (hbr.block _ (by omega)).trans hr
      have ht' : wr.heap[w2.heap.size]? = some (.cells #[.int .i64 3, .int .i64 tn, .string ⟨#[91, 93]⟩, .slice a2 tl c2] 28 (0, 0)) := (hbr.block _ (by omega)).trans ht7
      have hown := Q.own
      rw [hjn, List.take_length] at hown
      have hcv := run_string_own hown
      obtain ⟨va, vc, rfl⟩ := ownsRow_slice hown
      rw [← hjn] at hcv ⊢
      have x0 := cell_of_block ht' 0 (by simp)
      simp only [List.getElem_toArray, List.getElem_cons_zero, List.getElem_cons_succ] at x0
      have x1 := cell_of_block ht' 1 (by simp)
      simp only [List.getElem_toArray, List.getElem_cons_zero, List.getElem_cons_succ] at x1
      have x2 := cell_of_block ht' 2 (by simp)
      simp only [List.getElem_toArray, List.getElem_cons_zero, List.getElem_cons_succ] at x2
      have x3 := cell_of_block ht' 3 (by simp)
      simp only [List.getElem_toArray, List.getElem_cons_zero, List.getElem_cons_succ] at x3
      have r0 := cell_of_block hr' 0 (by simp)
      simp only [List.getElem_toArray, List.getElem_cons_zero, List.getElem_cons_succ] at r0
      have f0 := frozen_of_block hr' 0
      have r1 := cell_of_block hr' 1 (by simp)
      simp only [List.getElem_toArray, List.getElem_cons_zero, List.getElem_cons_succ] at r1
      have f1 := frozen_of_block hr' 1
      have r2 := cell_of_block hr' 2 (by simp)
      simp only [List.getElem_toArray, List.getElem_cons_zero, List.getElem_cons_succ] at r2
      have f2 := frozen_of_block hr' 2
      have r3 := cell_of_block hr' 3 (by simp)
      simp only [List.getElem_toArray, List.getElem_cons_zero, List.getElem_cons_succ] at r3
      have f3 := frozen_of_block hr' 3
      have hl7 : w.heap.size + 1 < wr.heap.size := by omega
      have HE := Lib.hid (And.intro hbw (And.intro hbr hcv))
      clear hbw hr ht7 hr' ht' hown Q hbr hjn hlt hcv
      go_wp2_with ((with_reducible show wpList _ _ _ (Oper.mk (some 94) _ _ _ _ _ :: _) _ _); refine wpList_conv rfl 72 9 _ rfl _ _ rfl HE.out.2.2 ?_)
      refine bodyPost_ret (v := .tuple #[.string ⟨bs.toArray⟩, tmVal noT none 0]) (by simp only [results, Tryd.results42, tmVal, noT, Tm.kind, Tm.n, Tm.s, Tm.args, List.length_nil]; go_simp) rfl ⟨rfl, ?_⟩
      refine Below.setCell (Below.setCell (Below.setCell (Below.setCell (HE.out.1.trans (HE.out.2.1.mono (by omega))) ?_ _) ?_ _) ?_ _) ?_ _ <;> exact Nat.le_add_right _ 1
end Go.Proofs.YtkjkckdjenjgdaaDoor
