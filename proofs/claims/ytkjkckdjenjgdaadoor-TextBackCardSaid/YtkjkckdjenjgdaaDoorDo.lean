/- The walk over text.Do, for each builtin. -/
import Derived.Test.YtkjkckdjenjgdaaDoorText
import Derived.Test.YtkjkckdjenjgdaaDoorMapLib
namespace Go.Proofs.YtkjkckdjenjgdaaDoor
open Go Go.RowKit

def nmLength : ByteArray := ⟨#[97, 116, 111, 109, 95, 108, 101, 110, 103, 116, 104]⟩
def nmChars : ByteArray := ⟨#[97, 116, 111, 109, 95, 99, 104, 97, 114, 115]⟩
def nmCodes : ByteArray := ⟨#[97, 116, 111, 109, 95, 99, 111, 100, 101, 115]⟩
def nmConcat : ByteArray := ⟨#[97, 116, 111, 109, 95, 99, 111, 110, 99, 97, 116]⟩

theorem does_length (w : World) : Calls Tryd.prog 13 #[.string nmLength, .int .i64 2] w fun e w' => e = .returned (.bool true) ∧ w = w' := by
  unfold nmLength
  go_enter Tryd.func13, Tryd.ntmps13
  go_wp2_with fail
  go_ret
  exact ⟨rfl, rfl⟩
theorem does_chars (w : World) : Calls Tryd.prog 13 #[.string nmChars, .int .i64 2] w fun e w' => e = .returned (.bool true) ∧ w = w' := by
  unfold nmChars
  go_enter Tryd.func13, Tryd.ntmps13
  go_wp2_with fail
  go_ret
  exact ⟨rfl, rfl⟩
theorem does_codes (w : World) : Calls Tryd.prog 13 #[.string nmCodes, .int .i64 2] w fun e w' => e = .returned (.bool true) ∧ w = w' := by
  unfold nmCodes
  go_enter Tryd.func13, Tryd.ntmps13
  go_wp2_with fail
  go_ret
  exact ⟨rfl, rfl⟩
theorem does_concat (w : World) : Calls Tryd.prog 13 #[.string nmConcat, .int .i64 3] w fun e w' => e = .returned (.bool true) ∧ w = w' := by
  unfold nmConcat
  go_enter Tryd.func13, Tryd.ntmps13
  go_wp2_with fail
  go_ret
  exact ⟨rfl, rfl⟩

set_option maxHeartbeats 2000000 in
set_option maxRecDepth 100000 in
theorem do_length (ts : List Tm) (b o cap : Nat) (w : World) (I : Nat → Prop) (d : DidS) (hl : ts.length = 2) (h : TmsC w I ts b o) (hcap : ts.length ≤ cap) (hck : ∀ t ∈ ts, checkE t = 0 ∧ t.size ≤ 1000000000)
    (hm : ∀ w', TmsC w' I ts b o → Calls Tryd.prog 23 #[.agg #[.slice (some ⟨b, o, none⟩) 2 cap]] w' fun e w'' => Ret (fun v w'' => DidV w'' (fun b => w'.heap.size ≤ b) d v ∧ Below w'.heap.size w' w'') e w'') :
    Calls Tryd.prog 10 #[.string nmLength, .slice (some ⟨b, o, none⟩) 2 cap] w fun e w' => Ret (fun v w' => ∃ dv, v = .tuple #[dv, .int .i64 0] ∧ DidV w' (fun b => w.heap.size ≤ b) d dv ∧ Below w.heap.size w w') e w' := by
  have hdoes := does_length
  unfold nmLength at hdoes ⊢
  have HD := Lib.hid hdoes
  have HM := Lib.hid hm
  have HT := Lib.hid h
  have HC := Lib.hid hck
  have HL := Lib.hid hl
  clear hdoes hm h hck hl
  go_enter Tryd.func10, Tryd.ntmps10
  go_wp2_with (go_at_call 13; refine (HD.out _).mono ?_; rintro e w1 ⟨rfl, rfl⟩)
  go_loopg [19] 2 (fun k i wr => ∃ j : Nat, j ≤ 2 ∧ k = 2 - j ∧ i = .int .i64 (j : Int) ∧ Below (w.heap.size + 1) (w.alloc (.cells zeroDid 35)) wr)
  case atStart => exact ⟨0, by omega, by omega, rfl, Below.refl _ _⟩
  case round =>
    obtain ⟨j, hj, rfl, rfl, hb⟩ := hrel
    have hfa : Fr (fun _ => False) w wr := (Fr.alloc _ w _).trans (Fr.of_below (hb.mono (by simp)) |> fun h => by simpa using h)
    have hTr : TmsC wr I ts b o := TmsC.keep (fun b _ hl => hfa.block b hl id) ts b o HT.out
    by_cases hj3 : j < 2
    · obtain ⟨a0, p0, x0, x1, x2, x3, hs⟩ := hTr.cells j (by rw [HL.out]; exact hj3)
      obtain ⟨t, ht⟩ : ∃ t, t = ts[j]'(by rw [HL.out]; exact hj3) := ⟨_, rfl⟩
      rw [← ht] at x0 x1 x2 x3 hs
      have hck : checkE t = 0 ∧ t.size ≤ 1000000000 := HC.out t (by rw [ht]; exact List.getElem_mem _)
      have HB := Lib.hid (And.intro hb (And.intro hs hck))
      clear hb hfa hTr ht hs hck
      have hlb := World.block_lt_of_cell? wr _ x0
      simp only at hlb
      go_wp2_with fail
      refine (check_any I t a0 p0 _ (HB.out.2.1.fr (Fr.alloc (fun _ => False) _ _) fun _ _ => id) HB.out.2.2.2).mono ?_
      rintro e w1 ⟨rfl, hb1⟩
      rw [HB.out.2.2.1]
      have hb0 := HB.out.1.size
      have HB1 := Lib.hid hb1
      clear hb1
      dsimp only [Act.put]
      go_wp2_with fail
      go_roundg (2 - (j + 1))
      case measure => omega
      case rel =>
        refine ⟨j + 1, by omega, rfl, by go_num, (HB.out.1.alloc (by simp at hb0; omega) _).trans (HB1.out.mono (by simp at hb0 ⊢; omega))⟩
    · obtain rfl : j = 2 := by omega
      have HB := Lib.hid (And.intro hb hTr)
      clear hb hfa hTr hj3
      have hmm := @run_makeMap Tryd.prog
      go_wp2_with (first
        | ((with_reducible show wpList _ _ _ (Oper.mk none (Op.insert _ _ _ _) _ _ _ _ :: _) _ _); refine wpList_insert_str rfl 60 _ _ _ _ _ rfl Tryd.underlying60 Tryd.underlying9 _ _ _ _ _ (by simp only [World.size_alloc]) rfl rfl rfl rfl ?_)
        | ((with_reducible show wpList _ _ _ (Oper.mk (some 48) _ _ _ _ _ :: _) _ _); refine wpList_lookup_str rfl 60 _ _ _ _ rfl Tryd.underlying60 Tryd.underlying9 _ _ _ _ _ (heap_new' (by simp only [World.size_alloc])) rfl rfl rfl ?_))
      refine (HM.out _ (TmsC.keep (fun b _ hl => (((Fr.alloc (fun _ => False) wr _).trans (Fr.alloc _ _ _))).block b hl id) ts b o HB.out.2)).mono ?_
      rintro e w5 ⟨_, rfl, ⟨a1, c1, a2', c2, a3, c3, rfl, hi1, hi2, hi3⟩, hb5⟩
      have hb := HB.out.1
      have hsw := hb.size
      rw [World.size_alloc] at hsw
      have hs5 := hb5.size
      rw [World.size_alloc, World.size_alloc] at hs5
      have hres5 : w5.heap[w.heap.size]? = some (.cells zeroDid 35 (0, 0)) := by
        rw [hb5.block _ (by simp only [World.size_alloc]; omega)]
        refine heap_old' (by simp only [World.size_alloc]; omega) (heap_old' (by omega) ?_)
        rw [hb.block _ (by omega)]
        exact heap_alloc_new w _
      have hall : Below w.heap.size w w5 := (((Below.refl _ w).alloc (Nat.le_refl _) _).trans (hb.mono (by omega))).trans ((((Below.refl _ wr).alloc (by omega) _).alloc (by simp only [World.size_alloc]; omega) _).trans (hb5.mono (by simp only [World.size_alloc]; omega)))
      have hMI : ∀ b, ((wr.alloc (.cells #[.slice (some ⟨b, o, none⟩) 2 cap] 58)).alloc (.map #[] 0)).heap.size ≤ b → w.heap.size + 1 ≤ b := by
        intro b hb; simp only [World.size_alloc] at hb; omega
      have hi1 := hi1.mono (J := fun b => w.heap.size + 1 ≤ b) (fun b hb => by simp only [World.size_alloc] at hb; omega)
      have hi2 := hi2.mono (J := fun b => w.heap.size + 1 ≤ b) (fun b hb => by simp only [World.size_alloc] at hb; omega)
      have hi3 := hi3.mono (J := fun b => w.heap.size + 1 ≤ b) (fun b hb => by simp only [World.size_alloc] at hb; omega)
      have hN : wr.heap.size + 2 ≤ w5.heap.size := by omega
      simp only [zeroDid] at hres5
      have r0 := cell_of_block hres5 0 (by simp)
      simp only [List.getElem_toArray, List.getElem_cons_zero, List.getElem_cons_succ] at r0
      have f0 := frozen_of_block hres5 0
      have r1 := cell_of_block hres5 1 (by simp)
      simp only [List.getElem_toArray, List.getElem_cons_zero, List.getElem_cons_succ] at r1
      have f1 := frozen_of_block hres5 1
      have r2 := cell_of_block hres5 2 (by simp)
      simp only [List.getElem_toArray, List.getElem_cons_zero, List.getElem_cons_succ] at r2
      have f2 := frozen_of_block hres5 2
      have r3 := cell_of_block hres5 3 (by simp)
      simp only [List.getElem_toArray, List.getElem_cons_zero, List.getElem_cons_succ] at r3
      have f3 := frozen_of_block hres5 3
      have r4 := cell_of_block hres5 4 (by simp)
      simp only [List.getElem_toArray, List.getElem_cons_zero, List.getElem_cons_succ] at r4
      have f4 := frozen_of_block hres5 4
      have r5 := cell_of_block hres5 5 (by simp)
      simp only [List.getElem_toArray, List.getElem_cons_zero, List.getElem_cons_succ] at r5
      have f5 := frozen_of_block hres5 5
      have r6 := cell_of_block hres5 6 (by simp)
      simp only [List.getElem_toArray, List.getElem_cons_zero, List.getElem_cons_succ] at r6
      have f6 := frozen_of_block hres5 6
      have hw5 := (Array.getElem?_eq_some_iff.1 hres5).1
      have HE := Lib.hid (And.intro hi1 (And.intro hi2 (And.intro hi3 hall)))
      clear hi1 hi2 hi3 hall hb5 hres5 hb hMI hmm
      obtain ⟨ok, dargs, dterms, dwr⟩ := d
      simp only [didVal] at HE ⊢
      go_wp2_with fail
      refine bodyPost_ret (v := .tuple #[didVal ⟨ok, dargs, dterms, dwr⟩ a1 c1 a2' c2 a3 c3, .int .i64 0]) (by simp only [results, Tryd.results10, didVal]; go_simp) rfl ?_
      obtain ⟨hi1, hi2, hi3, hall⟩ := HE.out
      have hset : Fr (· = w.heap.size) w5 (((((((w5.setCell ⟨w.heap.size, 0, none⟩ (.bool ok)).setCell ⟨w.heap.size, 1, none⟩ (.slice a1 dargs.length c1)).setCell ⟨w.heap.size, 2, none⟩ (.slice a2' dterms.length c2)).setCell ⟨w.heap.size, 3, none⟩ (.int .i64 dwr.kind)).setCell ⟨w.heap.size, 4, none⟩ (.int .i64 dwr.n)).setCell ⟨w.heap.size, 5, none⟩ (.string dwr.s)).setCell ⟨w.heap.size, 6, none⟩ (.slice a3 dwr.args.length c3)) :=
        ((((((Fr.set1 _ _ _ _).trans (Fr.set1 _ _ _ _)).trans (Fr.set1 _ _ _ _)).trans (Fr.set1 _ _ _ _)).trans (Fr.set1 _ _ _ _)).trans (Fr.set1 _ _ _ _)).trans (Fr.set1 _ _ _ _)
      refine ⟨_, rfl, _, rfl, ⟨a1, c1, a2', c2, a3, c3, rfl, ?_, ?_, ?_⟩, hall.trans (hset.below hall.size fun k hk => by omega)⟩
      · exact (hi1.keep fun b hb hl => hset.block b hl (by omega)).mono fun b hb => by omega
      · exact (hi2.fr hset fun b hb => by omega).mono fun b hb => by omega
      · exact (hi3.fr hset fun b hb => by omega).mono fun b hb => by omega

set_option maxHeartbeats 2000000 in
set_option maxRecDepth 100000 in
theorem do_chars (ts : List Tm) (b o cap : Nat) (w : World) (I : Nat → Prop) (d : DidS) (hl : ts.length = 2) (h : TmsC w I ts b o) (hcap : ts.length ≤ cap) (hck : ∀ t ∈ ts, checkE t = 0 ∧ t.size ≤ 1000000000)
    (hm : ∀ w', TmsC w' I ts b o → Calls Tryd.prog 24 #[.agg #[.slice (some ⟨b, o, none⟩) 2 cap]] w' fun e w'' => Ret (fun v w'' => DidV w'' (fun b => w'.heap.size ≤ b) d v ∧ Below w'.heap.size w' w'') e w'') :
    Calls Tryd.prog 10 #[.string nmChars, .slice (some ⟨b, o, none⟩) 2 cap] w fun e w' => Ret (fun v w' => ∃ dv, v = .tuple #[dv, .int .i64 0] ∧ DidV w' (fun b => w.heap.size ≤ b) d dv ∧ Below w.heap.size w w') e w' := by
  have hdoes := does_chars
  unfold nmChars at hdoes ⊢
  have HD := Lib.hid hdoes
  have HM := Lib.hid hm
  have HT := Lib.hid h
  have HC := Lib.hid hck
  have HL := Lib.hid hl
  clear hdoes hm h hck hl
  go_enter Tryd.func10, Tryd.ntmps10
  go_wp2_with (go_at_call 13; refine (HD.out _).mono ?_; rintro e w1 ⟨rfl, rfl⟩)
  go_loopg [19] 2 (fun k i wr => ∃ j : Nat, j ≤ 2 ∧ k = 2 - j ∧ i = .int .i64 (j : Int) ∧ Below (w.heap.size + 1) (w.alloc (.cells zeroDid 35)) wr)
  case atStart => exact ⟨0, by omega, by omega, rfl, Below.refl _ _⟩
  case round =>
    obtain ⟨j, hj, rfl, rfl, hb⟩ := hrel
    have hfa : Fr (fun _ => False) w wr := (Fr.alloc _ w _).trans (Fr.of_below (hb.mono (by simp)) |> fun h => by simpa using h)
    have hTr : TmsC wr I ts b o := TmsC.keep (fun b _ hl => hfa.block b hl id) ts b o HT.out
    by_cases hj3 : j < 2
    · obtain ⟨a0, p0, x0, x1, x2, x3, hs⟩ := hTr.cells j (by rw [HL.out]; exact hj3)
      obtain ⟨t, ht⟩ : ∃ t, t = ts[j]'(by rw [HL.out]; exact hj3) := ⟨_, rfl⟩
      rw [← ht] at x0 x1 x2 x3 hs
      have hck : checkE t = 0 ∧ t.size ≤ 1000000000 := HC.out t (by rw [ht]; exact List.getElem_mem _)
      have HB := Lib.hid (And.intro hb (And.intro hs hck))
      clear hb hfa hTr ht hs hck
      have hlb := World.block_lt_of_cell? wr _ x0
      simp only at hlb
      go_wp2_with fail
      refine (check_any I t a0 p0 _ (HB.out.2.1.fr (Fr.alloc (fun _ => False) _ _) fun _ _ => id) HB.out.2.2.2).mono ?_
      rintro e w1 ⟨rfl, hb1⟩
      rw [HB.out.2.2.1]
      have hb0 := HB.out.1.size
      have HB1 := Lib.hid hb1
      clear hb1
      dsimp only [Act.put]
      go_wp2_with fail
      go_roundg (2 - (j + 1))
      case measure => omega
      case rel =>
        refine ⟨j + 1, by omega, rfl, by go_num, (HB.out.1.alloc (by simp at hb0; omega) _).trans (HB1.out.mono (by simp at hb0 ⊢; omega))⟩
    · obtain rfl : j = 2 := by omega
      have HB := Lib.hid (And.intro hb hTr)
      clear hb hfa hTr hj3
      have hmm := @run_makeMap Tryd.prog
      go_wp2_with (first
        | ((with_reducible show wpList _ _ _ (Oper.mk none (Op.insert _ _ _ _) _ _ _ _ :: _) _ _); refine wpList_insert_str rfl 60 _ _ _ _ _ rfl Tryd.underlying60 Tryd.underlying9 _ _ _ _ _ (by simp only [World.size_alloc]) rfl rfl rfl rfl ?_)
        | ((with_reducible show wpList _ _ _ (Oper.mk (some 48) _ _ _ _ _ :: _) _ _); refine wpList_lookup_str rfl 60 _ _ _ _ rfl Tryd.underlying60 Tryd.underlying9 _ _ _ _ _ (heap_new' (by simp only [World.size_alloc])) rfl rfl rfl ?_))
      refine (HM.out _ (TmsC.keep (fun b _ hl => (((Fr.alloc (fun _ => False) wr _).trans (Fr.alloc _ _ _))).block b hl id) ts b o HB.out.2)).mono ?_
      rintro e w5 ⟨_, rfl, ⟨a1, c1, a2', c2, a3, c3, rfl, hi1, hi2, hi3⟩, hb5⟩
      have hb := HB.out.1
      have hsw := hb.size
      rw [World.size_alloc] at hsw
      have hs5 := hb5.size
      rw [World.size_alloc, World.size_alloc] at hs5
      have hres5 : w5.heap[w.heap.size]? = some (.cells zeroDid 35 (0, 0)) := by
        rw [hb5.block _ (by simp only [World.size_alloc]; omega)]
        refine heap_old' (by simp only [World.size_alloc]; omega) (heap_old' (by omega) ?_)
        rw [hb.block _ (by omega)]
        exact heap_alloc_new w _
      have hall : Below w.heap.size w w5 := (((Below.refl _ w).alloc (Nat.le_refl _) _).trans (hb.mono (by omega))).trans ((((Below.refl _ wr).alloc (by omega) _).alloc (by simp only [World.size_alloc]; omega) _).trans (hb5.mono (by simp only [World.size_alloc]; omega)))
      have hMI : ∀ b, ((wr.alloc (.cells #[.slice (some ⟨b, o, none⟩) 2 cap] 58)).alloc (.map #[] 0)).heap.size ≤ b → w.heap.size + 1 ≤ b := by
        intro b hb; simp only [World.size_alloc] at hb; omega
      have hi1 := hi1.mono (J := fun b => w.heap.size + 1 ≤ b) (fun b hb => by simp only [World.size_alloc] at hb; omega)
      have hi2 := hi2.mono (J := fun b => w.heap.size + 1 ≤ b) (fun b hb => by simp only [World.size_alloc] at hb; omega)
      have hi3 := hi3.mono (J := fun b => w.heap.size + 1 ≤ b) (fun b hb => by simp only [World.size_alloc] at hb; omega)
      have hN : wr.heap.size + 2 ≤ w5.heap.size := by omega
      simp only [zeroDid] at hres5
      have r0 := cell_of_block hres5 0 (by simp)
      simp only [List.getElem_toArray, List.getElem_cons_zero, List.getElem_cons_succ] at r0
      have f0 := frozen_of_block hres5 0
      have r1 := cell_of_block hres5 1 (by simp)
      simp only [List.getElem_toArray, List.getElem_cons_zero, List.getElem_cons_succ] at r1
      have f1 := frozen_of_block hres5 1
      have r2 := cell_of_block hres5 2 (by simp)
      simp only [List.getElem_toArray, List.getElem_cons_zero, List.getElem_cons_succ] at r2
      have f2 := frozen_of_block hres5 2
      have r3 := cell_of_block hres5 3 (by simp)
      simp only [List.getElem_toArray, List.getElem_cons_zero, List.getElem_cons_succ] at r3
      have f3 := frozen_of_block hres5 3
      have r4 := cell_of_block hres5 4 (by simp)
      simp only [List.getElem_toArray, List.getElem_cons_zero, List.getElem_cons_succ] at r4
      have f4 := frozen_of_block hres5 4
      have r5 := cell_of_block hres5 5 (by simp)
      simp only [List.getElem_toArray, List.getElem_cons_zero, List.getElem_cons_succ] at r5
      have f5 := frozen_of_block hres5 5
      have r6 := cell_of_block hres5 6 (by simp)
      simp only [List.getElem_toArray, List.getElem_cons_zero, List.getElem_cons_succ] at r6
      have f6 := frozen_of_block hres5 6
      have hw5 := (Array.getElem?_eq_some_iff.1 hres5).1
      have HE := Lib.hid (And.intro hi1 (And.intro hi2 (And.intro hi3 hall)))
      clear hi1 hi2 hi3 hall hb5 hres5 hb hMI hmm
      obtain ⟨ok, dargs, dterms, dwr⟩ := d
      simp only [didVal] at HE ⊢
      go_wp2_with fail
      refine bodyPost_ret (v := .tuple #[didVal ⟨ok, dargs, dterms, dwr⟩ a1 c1 a2' c2 a3 c3, .int .i64 0]) (by simp only [results, Tryd.results10, didVal]; go_simp) rfl ?_
      obtain ⟨hi1, hi2, hi3, hall⟩ := HE.out
      have hset : Fr (· = w.heap.size) w5 (((((((w5.setCell ⟨w.heap.size, 0, none⟩ (.bool ok)).setCell ⟨w.heap.size, 1, none⟩ (.slice a1 dargs.length c1)).setCell ⟨w.heap.size, 2, none⟩ (.slice a2' dterms.length c2)).setCell ⟨w.heap.size, 3, none⟩ (.int .i64 dwr.kind)).setCell ⟨w.heap.size, 4, none⟩ (.int .i64 dwr.n)).setCell ⟨w.heap.size, 5, none⟩ (.string dwr.s)).setCell ⟨w.heap.size, 6, none⟩ (.slice a3 dwr.args.length c3)) :=
        ((((((Fr.set1 _ _ _ _).trans (Fr.set1 _ _ _ _)).trans (Fr.set1 _ _ _ _)).trans (Fr.set1 _ _ _ _)).trans (Fr.set1 _ _ _ _)).trans (Fr.set1 _ _ _ _)).trans (Fr.set1 _ _ _ _)
      refine ⟨_, rfl, _, rfl, ⟨a1, c1, a2', c2, a3, c3, rfl, ?_, ?_, ?_⟩, hall.trans (hset.below hall.size fun k hk => by omega)⟩
      · exact (hi1.keep fun b hb hl => hset.block b hl (by omega)).mono fun b hb => by omega
      · exact (hi2.fr hset fun b hb => by omega).mono fun b hb => by omega
      · exact (hi3.fr hset fun b hb => by omega).mono fun b hb => by omega

set_option maxHeartbeats 2000000 in
set_option maxRecDepth 100000 in
theorem do_codes (ts : List Tm) (b o cap : Nat) (w : World) (I : Nat → Prop) (d : DidS) (hl : ts.length = 2) (h : TmsC w I ts b o) (hcap : ts.length ≤ cap) (hck : ∀ t ∈ ts, checkE t = 0 ∧ t.size ≤ 1000000000)
    (hm : ∀ w', TmsC w' I ts b o → Calls Tryd.prog 25 #[.agg #[.slice (some ⟨b, o, none⟩) 2 cap]] w' fun e w'' => Ret (fun v w'' => DidV w'' (fun b => w'.heap.size ≤ b) d v ∧ Below w'.heap.size w' w'') e w'') :
    Calls Tryd.prog 10 #[.string nmCodes, .slice (some ⟨b, o, none⟩) 2 cap] w fun e w' => Ret (fun v w' => ∃ dv, v = .tuple #[dv, .int .i64 0] ∧ DidV w' (fun b => w.heap.size ≤ b) d dv ∧ Below w.heap.size w w') e w' := by
  have hdoes := does_codes
  unfold nmCodes at hdoes ⊢
  have HD := Lib.hid hdoes
  have HM := Lib.hid hm
  have HT := Lib.hid h
  have HC := Lib.hid hck
  have HL := Lib.hid hl
  clear hdoes hm h hck hl
  go_enter Tryd.func10, Tryd.ntmps10
  go_wp2_with (go_at_call 13; refine (HD.out _).mono ?_; rintro e w1 ⟨rfl, rfl⟩)
  go_loopg [19] 2 (fun k i wr => ∃ j : Nat, j ≤ 2 ∧ k = 2 - j ∧ i = .int .i64 (j : Int) ∧ Below (w.heap.size + 1) (w.alloc (.cells zeroDid 35)) wr)
  case atStart => exact ⟨0, by omega, by omega, rfl, Below.refl _ _⟩
  case round =>
    obtain ⟨j, hj, rfl, rfl, hb⟩ := hrel
    have hfa : Fr (fun _ => False) w wr := (Fr.alloc _ w _).trans (Fr.of_below (hb.mono (by simp)) |> fun h => by simpa using h)
    have hTr : TmsC wr I ts b o := TmsC.keep (fun b _ hl => hfa.block b hl id) ts b o HT.out
    by_cases hj3 : j < 2
    · obtain ⟨a0, p0, x0, x1, x2, x3, hs⟩ := hTr.cells j (by rw [HL.out]; exact hj3)
      obtain ⟨t, ht⟩ : ∃ t, t = ts[j]'(by rw [HL.out]; exact hj3) := ⟨_, rfl⟩
      rw [← ht] at x0 x1 x2 x3 hs
      have hck : checkE t = 0 ∧ t.size ≤ 1000000000 := HC.out t (by rw [ht]; exact List.getElem_mem _)
      have HB := Lib.hid (And.intro hb (And.intro hs hck))
      clear hb hfa hTr ht hs hck
      have hlb := World.block_lt_of_cell? wr _ x0
      simp only at hlb
      go_wp2_with fail
      refine (check_any I t a0 p0 _ (HB.out.2.1.fr (Fr.alloc (fun _ => False) _ _) fun _ _ => id) HB.out.2.2.2).mono ?_
      rintro e w1 ⟨rfl, hb1⟩
      rw [HB.out.2.2.1]
      have hb0 := HB.out.1.size
      have HB1 := Lib.hid hb1
      clear hb1
      dsimp only [Act.put]
      go_wp2_with fail
      go_roundg (2 - (j + 1))
      case measure => omega
      case rel =>
        refine ⟨j + 1, by omega, rfl, by go_num, (HB.out.1.alloc (by simp at hb0; omega) _).trans (HB1.out.mono (by simp at hb0 ⊢; omega))⟩
    · obtain rfl : j = 2 := by omega
      have HB := Lib.hid (And.intro hb hTr)
      clear hb hfa hTr hj3
      have hmm := @run_makeMap Tryd.prog
      go_wp2_with (first
        | ((with_reducible show wpList _ _ _ (Oper.mk none (Op.insert _ _ _ _) _ _ _ _ :: _) _ _); refine wpList_insert_str rfl 60 _ _ _ _ _ rfl Tryd.underlying60 Tryd.underlying9 _ _ _ _ _ (by simp only [World.size_alloc]) rfl rfl rfl rfl ?_)
        | ((with_reducible show wpList _ _ _ (Oper.mk (some 48) _ _ _ _ _ :: _) _ _); refine wpList_lookup_str rfl 60 _ _ _ _ rfl Tryd.underlying60 Tryd.underlying9 _ _ _ _ _ (heap_new' (by simp only [World.size_alloc])) rfl rfl rfl ?_))
      refine (HM.out _ (TmsC.keep (fun b _ hl => (((Fr.alloc (fun _ => False) wr _).trans (Fr.alloc _ _ _))).block b hl id) ts b o HB.out.2)).mono ?_
      rintro e w5 ⟨_, rfl, ⟨a1, c1, a2', c2, a3, c3, rfl, hi1, hi2, hi3⟩, hb5⟩
      have hb := HB.out.1
      have hsw := hb.size
      rw [World.size_alloc] at hsw
      have hs5 := hb5.size
      rw [World.size_alloc, World.size_alloc] at hs5
      have hres5 : w5.heap[w.heap.size]? = some (.cells zeroDid 35 (0, 0)) := by
        rw [hb5.block _ (by simp only [World.size_alloc]; omega)]
        refine heap_old' (by simp only [World.size_alloc]; omega) (heap_old' (by omega) ?_)
        rw [hb.block _ (by omega)]
        exact heap_alloc_new w _
      have hall : Below w.heap.size w w5 := (((Below.refl _ w).alloc (Nat.le_refl _) _).trans (hb.mono (by omega))).trans ((((Below.refl _ wr).alloc (by omega) _).alloc (by simp only [World.size_alloc]; omega) _).trans (hb5.mono (by simp only [World.size_alloc]; omega)))
      have hMI : ∀ b, ((wr.alloc (.cells #[.slice (some ⟨b, o, none⟩) 2 cap] 58)).alloc (.map #[] 0)).heap.size ≤ b → w.heap.size + 1 ≤ b := by
        intro b hb; simp only [World.size_alloc] at hb; omega
      have hi1 := hi1.mono (J := fun b => w.heap.size + 1 ≤ b) (fun b hb => by simp only [World.size_alloc] at hb; omega)
      have hi2 := hi2.mono (J := fun b => w.heap.size + 1 ≤ b) (fun b hb => by simp only [World.size_alloc] at hb; omega)
      have hi3 := hi3.mono (J := fun b => w.heap.size + 1 ≤ b) (fun b hb => by simp only [World.size_alloc] at hb; omega)
      have hN : wr.heap.size + 2 ≤ w5.heap.size := by omega
      simp only [zeroDid] at hres5
      have r0 := cell_of_block hres5 0 (by simp)
      simp only [List.getElem_toArray, List.getElem_cons_zero, List.getElem_cons_succ] at r0
      have f0 := frozen_of_block hres5 0
      have r1 := cell_of_block hres5 1 (by simp)
      simp only [List.getElem_toArray, List.getElem_cons_zero, List.getElem_cons_succ] at r1
      have f1 := frozen_of_block hres5 1
      have r2 := cell_of_block hres5 2 (by simp)
      simp only [List.getElem_toArray, List.getElem_cons_zero, List.getElem_cons_succ] at r2
      have f2 := frozen_of_block hres5 2
      have r3 := cell_of_block hres5 3 (by simp)
      simp only [List.getElem_toArray, List.getElem_cons_zero, List.getElem_cons_succ] at r3
      have f3 := frozen_of_block hres5 3
      have r4 := cell_of_block hres5 4 (by simp)
      simp only [List.getElem_toArray, List.getElem_cons_zero, List.getElem_cons_succ] at r4
      have f4 := frozen_of_block hres5 4
      have r5 := cell_of_block hres5 5 (by simp)
      simp only [List.getElem_toArray, List.getElem_cons_zero, List.getElem_cons_succ] at r5
      have f5 := frozen_of_block hres5 5
      have r6 := cell_of_block hres5 6 (by simp)
      simp only [List.getElem_toArray, List.getElem_cons_zero, List.getElem_cons_succ] at r6
      have f6 := frozen_of_block hres5 6
      have hw5 := (Array.getElem?_eq_some_iff.1 hres5).1
      have HE := Lib.hid (And.intro hi1 (And.intro hi2 (And.intro hi3 hall)))
      clear hi1 hi2 hi3 hall hb5 hres5 hb hMI hmm
      obtain ⟨ok, dargs, dterms, dwr⟩ := d
      simp only [didVal] at HE ⊢
      go_wp2_with fail
      refine bodyPost_ret (v := .tuple #[didVal ⟨ok, dargs, dterms, dwr⟩ a1 c1 a2' c2 a3 c3, .int .i64 0]) (by simp only [results, Tryd.results10, didVal]; go_simp) rfl ?_
      obtain ⟨hi1, hi2, hi3, hall⟩ := HE.out
      have hset : Fr (· = w.heap.size) w5 (((((((w5.setCell ⟨w.heap.size, 0, none⟩ (.bool ok)).setCell ⟨w.heap.size, 1, none⟩ (.slice a1 dargs.length c1)).setCell ⟨w.heap.size, 2, none⟩ (.slice a2' dterms.length c2)).setCell ⟨w.heap.size, 3, none⟩ (.int .i64 dwr.kind)).setCell ⟨w.heap.size, 4, none⟩ (.int .i64 dwr.n)).setCell ⟨w.heap.size, 5, none⟩ (.string dwr.s)).setCell ⟨w.heap.size, 6, none⟩ (.slice a3 dwr.args.length c3)) :=
        ((((((Fr.set1 _ _ _ _).trans (Fr.set1 _ _ _ _)).trans (Fr.set1 _ _ _ _)).trans (Fr.set1 _ _ _ _)).trans (Fr.set1 _ _ _ _)).trans (Fr.set1 _ _ _ _)).trans (Fr.set1 _ _ _ _)
      refine ⟨_, rfl, _, rfl, ⟨a1, c1, a2', c2, a3, c3, rfl, ?_, ?_, ?_⟩, hall.trans (hset.below hall.size fun k hk => by omega)⟩
      · exact (hi1.keep fun b hb hl => hset.block b hl (by omega)).mono fun b hb => by omega
      · exact (hi2.fr hset fun b hb => by omega).mono fun b hb => by omega
      · exact (hi3.fr hset fun b hb => by omega).mono fun b hb => by omega

set_option maxHeartbeats 2000000 in
set_option maxRecDepth 100000 in
theorem do_concat (ts : List Tm) (b o cap : Nat) (w : World) (I : Nat → Prop) (d : DidS) (hl : ts.length = 3) (h : TmsC w I ts b o) (hcap : ts.length ≤ cap) (hck : ∀ t ∈ ts, checkE t = 0 ∧ t.size ≤ 1000000000)
    (hm : ∀ w', TmsC w' I ts b o → Calls Tryd.prog 28 #[.agg #[.slice (some ⟨b, o, none⟩) 3 cap]] w' fun e w'' => Ret (fun v w'' => DidV w'' (fun b => w'.heap.size ≤ b) d v ∧ Below w'.heap.size w' w'') e w'') :
    Calls Tryd.prog 10 #[.string nmConcat, .slice (some ⟨b, o, none⟩) 3 cap] w fun e w' => Ret (fun v w' => ∃ dv, v = .tuple #[dv, .int .i64 0] ∧ DidV w' (fun b => w.heap.size ≤ b) d dv ∧ Below w.heap.size w w') e w' := by
  have hdoes := does_concat
  unfold nmConcat at hdoes ⊢
  have HD := Lib.hid hdoes
  have HM := Lib.hid hm
  have HT := Lib.hid h
  have HC := Lib.hid hck
  have HL := Lib.hid hl
  clear hdoes hm h hck hl
  go_enter Tryd.func10, Tryd.ntmps10
  go_wp2_with (go_at_call 13; refine (HD.out _).mono ?_; rintro e w1 ⟨rfl, rfl⟩)
  go_loopg [19] 3 (fun k i wr => ∃ j : Nat, j ≤ 3 ∧ k = 3 - j ∧ i = .int .i64 (j : Int) ∧ Below (w.heap.size + 1) (w.alloc (.cells zeroDid 35)) wr)
  case atStart => exact ⟨0, by omega, by omega, rfl, Below.refl _ _⟩
  case round =>
    obtain ⟨j, hj, rfl, rfl, hb⟩ := hrel
    have hfa : Fr (fun _ => False) w wr := (Fr.alloc _ w _).trans (Fr.of_below (hb.mono (by simp)) |> fun h => by simpa using h)
    have hTr : TmsC wr I ts b o := TmsC.keep (fun b _ hl => hfa.block b hl id) ts b o HT.out
    by_cases hj3 : j < 3
    · obtain ⟨a0, p0, x0, x1, x2, x3, hs⟩ := hTr.cells j (by rw [HL.out]; exact hj3)
      obtain ⟨t, ht⟩ : ∃ t, t = ts[j]'(by rw [HL.out]; exact hj3) := ⟨_, rfl⟩
      rw [← ht] at x0 x1 x2 x3 hs
      have hck : checkE t = 0 ∧ t.size ≤ 1000000000 := HC.out t (by rw [ht]; exact List.getElem_mem _)
      have HB := Lib.hid (And.intro hb (And.intro hs hck))
      clear hb hfa hTr ht hs hck
      have hlb := World.block_lt_of_cell? wr _ x0
      simp only at hlb
      go_wp2_with fail
      refine (check_any I t a0 p0 _ (HB.out.2.1.fr (Fr.alloc (fun _ => False) _ _) fun _ _ => id) HB.out.2.2.2).mono ?_
      rintro e w1 ⟨rfl, hb1⟩
      rw [HB.out.2.2.1]
      have hb0 := HB.out.1.size
      have HB1 := Lib.hid hb1
      clear hb1
      dsimp only [Act.put]
      go_wp2_with fail
      go_roundg (3 - (j + 1))
      case measure => omega
      case rel =>
        refine ⟨j + 1, by omega, rfl, by go_num, (HB.out.1.alloc (by simp at hb0; omega) _).trans (HB1.out.mono (by simp at hb0 ⊢; omega))⟩
    · obtain rfl : j = 3 := by omega
      have HB := Lib.hid (And.intro hb hTr)
      clear hb hfa hTr hj3
      have hmm := @run_makeMap Tryd.prog
      go_wp2_with (first
        | ((with_reducible show wpList _ _ _ (Oper.mk none (Op.insert _ _ _ _) _ _ _ _ :: _) _ _); refine wpList_insert_str rfl 60 _ _ _ _ _ rfl Tryd.underlying60 Tryd.underlying9 _ _ _ _ _ (by simp only [World.size_alloc]) rfl rfl rfl rfl ?_)
        | ((with_reducible show wpList _ _ _ (Oper.mk (some 48) _ _ _ _ _ :: _) _ _); refine wpList_lookup_str rfl 60 _ _ _ _ rfl Tryd.underlying60 Tryd.underlying9 _ _ _ _ _ (heap_new' (by simp only [World.size_alloc])) rfl rfl rfl ?_))
      refine (HM.out _ (TmsC.keep (fun b _ hl => (((Fr.alloc (fun _ => False) wr _).trans (Fr.alloc _ _ _))).block b hl id) ts b o HB.out.2)).mono ?_
      rintro e w5 ⟨_, rfl, ⟨a1, c1, a2', c2, a3, c3, rfl, hi1, hi2, hi3⟩, hb5⟩
      have hb := HB.out.1
      have hsw := hb.size
      rw [World.size_alloc] at hsw
      have hs5 := hb5.size
      rw [World.size_alloc, World.size_alloc] at hs5
      have hres5 : w5.heap[w.heap.size]? = some (.cells zeroDid 35 (0, 0)) := by
        rw [hb5.block _ (by simp only [World.size_alloc]; omega)]
        refine heap_old' (by simp only [World.size_alloc]; omega) (heap_old' (by omega) ?_)
        rw [hb.block _ (by omega)]
        exact heap_alloc_new w _
      have hall : Below w.heap.size w w5 := (((Below.refl _ w).alloc (Nat.le_refl _) _).trans (hb.mono (by omega))).trans ((((Below.refl _ wr).alloc (by omega) _).alloc (by simp only [World.size_alloc]; omega) _).trans (hb5.mono (by simp only [World.size_alloc]; omega)))
      have hMI : ∀ b, ((wr.alloc (.cells #[.slice (some ⟨b, o, none⟩) 3 cap] 58)).alloc (.map #[] 0)).heap.size ≤ b → w.heap.size + 1 ≤ b := by
        intro b hb; simp only [World.size_alloc] at hb; omega
      have hi1 := hi1.mono (J := fun b => w.heap.size + 1 ≤ b) (fun b hb => by simp only [World.size_alloc] at hb; omega)
      have hi2 := hi2.mono (J := fun b => w.heap.size + 1 ≤ b) (fun b hb => by simp only [World.size_alloc] at hb; omega)
      have hi3 := hi3.mono (J := fun b => w.heap.size + 1 ≤ b) (fun b hb => by simp only [World.size_alloc] at hb; omega)
      have hN : wr.heap.size + 2 ≤ w5.heap.size := by omega
      simp only [zeroDid] at hres5
      have r0 := cell_of_block hres5 0 (by simp)
      simp only [List.getElem_toArray, List.getElem_cons_zero, List.getElem_cons_succ] at r0
      have f0 := frozen_of_block hres5 0
      have r1 := cell_of_block hres5 1 (by simp)
      simp only [List.getElem_toArray, List.getElem_cons_zero, List.getElem_cons_succ] at r1
      have f1 := frozen_of_block hres5 1
      have r2 := cell_of_block hres5 2 (by simp)
      simp only [List.getElem_toArray, List.getElem_cons_zero, List.getElem_cons_succ] at r2
      have f2 := frozen_of_block hres5 2
      have r3 := cell_of_block hres5 3 (by simp)
      simp only [List.getElem_toArray, List.getElem_cons_zero, List.getElem_cons_succ] at r3
      have f3 := frozen_of_block hres5 3
      have r4 := cell_of_block hres5 4 (by simp)
      simp only [List.getElem_toArray, List.getElem_cons_zero, List.getElem_cons_succ] at r4
      have f4 := frozen_of_block hres5 4
      have r5 := cell_of_block hres5 5 (by simp)
      simp only [List.getElem_toArray, List.getElem_cons_zero, List.getElem_cons_succ] at r5
      have f5 := frozen_of_block hres5 5
      have r6 := cell_of_block hres5 6 (by simp)
      simp only [List.getElem_toArray, List.getElem_cons_zero, List.getElem_cons_succ] at r6
      have f6 := frozen_of_block hres5 6
      have hw5 := (Array.getElem?_eq_some_iff.1 hres5).1
      have HE := Lib.hid (And.intro hi1 (And.intro hi2 (And.intro hi3 hall)))
      clear hi1 hi2 hi3 hall hb5 hres5 hb hMI hmm
      obtain ⟨ok, dargs, dterms, dwr⟩ := d
      simp only [didVal] at HE ⊢
      go_wp2_with fail
      refine bodyPost_ret (v := .tuple #[didVal ⟨ok, dargs, dterms, dwr⟩ a1 c1 a2' c2 a3 c3, .int .i64 0]) (by simp only [results, Tryd.results10, didVal]; go_simp) rfl ?_
      obtain ⟨hi1, hi2, hi3, hall⟩ := HE.out
      have hset : Fr (· = w.heap.size) w5 (((((((w5.setCell ⟨w.heap.size, 0, none⟩ (.bool ok)).setCell ⟨w.heap.size, 1, none⟩ (.slice a1 dargs.length c1)).setCell ⟨w.heap.size, 2, none⟩ (.slice a2' dterms.length c2)).setCell ⟨w.heap.size, 3, none⟩ (.int .i64 dwr.kind)).setCell ⟨w.heap.size, 4, none⟩ (.int .i64 dwr.n)).setCell ⟨w.heap.size, 5, none⟩ (.string dwr.s)).setCell ⟨w.heap.size, 6, none⟩ (.slice a3 dwr.args.length c3)) :=
        ((((((Fr.set1 _ _ _ _).trans (Fr.set1 _ _ _ _)).trans (Fr.set1 _ _ _ _)).trans (Fr.set1 _ _ _ _)).trans (Fr.set1 _ _ _ _)).trans (Fr.set1 _ _ _ _)).trans (Fr.set1 _ _ _ _)
      refine ⟨_, rfl, _, rfl, ⟨a1, c1, a2', c2, a3, c3, rfl, ?_, ?_, ?_⟩, hall.trans (hset.below hall.size fun k hk => by omega)⟩
      · exact (hi1.keep fun b hb hl => hset.block b hl (by omega)).mono fun b hb => by omega
      · exact (hi2.fr hset fun b hb => by omega).mono fun b hb => by omega
      · exact (hi3.fr hset fun b hb => by omega).mono fun b hb => by omega

theorem do_foo (w : World) :
    Calls Tryd.prog 10 #[.string ⟨#[102, 111, 111]⟩, .slice none 0 0] w fun e w' => e = .returned (.tuple #[didVal ⟨false, [], [], noT⟩ none 0 none 0 none 0, .int .i64 8]) ∧ Below w.heap.size w w' := by
  have hdoes : ∀ w : World, Calls Tryd.prog 13 #[.string ⟨#[102, 111, 111]⟩, .int .i64 0] w fun e w' => e = .returned (.bool false) ∧ w = w' := by
    intro w
    go_enter Tryd.func13, Tryd.ntmps13
    go_wp2_with fail
    go_ret
    exact ⟨rfl, rfl⟩
  have HD := Lib.hid hdoes
  clear hdoes
  go_enter Tryd.func10, Tryd.ntmps10
  go_wp2_with (go_at_call 13; refine (HD.out _).mono ?_; rintro e w1 ⟨rfl, rfl⟩)
  refine bodyPost_ret (v := .tuple #[didVal ⟨false, [], [], noT⟩ none 0 none 0 none 0, .int .i64 8]) (by simp only [results, Tryd.results10, didVal, noT, Tm.kind, Tm.n, Tm.s, Tm.args, List.length_nil]; go_simp) rfl ⟨rfl, ?_⟩
  exact (Below.refl _ _).alloc (Nat.le_refl _) _
end Go.Proofs.YtkjkckdjenjgdaaDoor
