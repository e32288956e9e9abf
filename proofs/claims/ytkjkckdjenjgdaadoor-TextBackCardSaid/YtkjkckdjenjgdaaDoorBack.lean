/- The walk over prolixlaw16.TextBack. -/
import Derived.Test.YtkjkckdjenjgdaaDoorSpellN
import Derived.Test.YtkjkckdjenjgdaaDoorRItems
import Derived.Test.YtkjkckdjenjgdaaDoorJoins
namespace Go.Proofs.YtkjkckdjenjgdaaDoor
open Go Go.RowKit
attribute [local go_sem ↓] Go.wp_at_zero Go.wp_at_succ
theorem bytes_back (s : ByteArray) : (⟨s.data.toList.toArray⟩ : ByteArray) = s := by cases s; rfl

theorem run_name0 (w : World) : (Instr.index 42 (.agg #[.string ⟨#[97, 116, 111, 109, 95, 99, 104, 97, 114, 115]⟩, .string ⟨#[97, 116, 111, 109, 95, 99, 111, 100, 101, 115]⟩]) (.int .i64 0)).run Tryd.prog w = .ok (.string ⟨#[97, 116, 111, 109, 95, 99, 104, 97, 114, 115]⟩) w := by kernel_rfl
theorem run_name1 (w : World) : (Instr.index 42 (.agg #[.string ⟨#[97, 116, 111, 109, 95, 99, 104, 97, 114, 115]⟩, .string ⟨#[97, 116, 111, 109, 95, 99, 111, 100, 101, 115]⟩]) (.int .i64 1)).run Tryd.prog w = .ok (.string ⟨#[97, 116, 111, 109, 95, 99, 111, 100, 101, 115]⟩) w := by kernel_rfl
theorem wpList_index {P : Program} {w : World} {ops : Array Oper} {rest : List Oper} {o : Oper} {a : Act} {Q : Exit → Act → World → Prop} (hgd : o.guard = none) (S : TypeId) (x i : Operand) (hop : o.op = .index S x i)
    (v n u : Value) (hv : a.eval x = v) (hn : a.eval i = n) (hrun : (Instr.index S v n).run P w = .ok u w) (h : wpList P ops Q rest (a.put o.dst u) w) : wpList P ops Q (o :: rest) a w := by
  refine wpList_plain hgd fun K' hK' => ?_
  unfold Oper.wp
  simp [execOp, hop, hv, hn, hrun, Result.andThen]
  exact hK' _ _ h
theorem do_chars_back (s : ByteArray) (n : Int) (t : Tm) (a1 a2 : Option Addr) (c1 c2 B : Nat) (Y : World) (I : Nat → Prop) (hn : 0 ≤ n) (ht : OkList false t s.data.toList)
    (h : Y.heap[B]? = some (.cells #[.int .i64 1, .int .i64 n, .string ⟨#[]⟩, .slice a1 0 c1, .int .i64 t.kind, .int .i64 t.n, .string t.s, .slice a2 t.args.length c2] 28 (0, 0))) (hsl : SlC Y I t.args a2 c2) :
    Calls Tryd.prog 10 #[.string ⟨#[97, 116, 111, 109, 95, 99, 104, 97, 114, 115]⟩, .slice (some ⟨B, 0, none⟩) 2 2] Y fun e w' => Ret (fun v w' => ∃ dv, v = .tuple #[dv, .int .i64 0] ∧ DidV w' (fun b => Y.heap.size ≤ b) (didIs 0 (atomT s)) dv ∧ Below Y.heap.size Y w') e w' := by
  have := do_chars_row n t s.data.toList a1 a2 c1 c2 B Y I hn ht h hsl
  rwa [bytes_back] at this
theorem do_codes_back (s : ByteArray) (n : Int) (t : Tm) (a1 a2 : Option Addr) (c1 c2 B : Nat) (Y : World) (I : Nat → Prop) (hn : 0 ≤ n) (ht : OkList true t s.data.toList)
    (h : Y.heap[B]? = some (.cells #[.int .i64 1, .int .i64 n, .string ⟨#[]⟩, .slice a1 0 c1, .int .i64 t.kind, .int .i64 t.n, .string t.s, .slice a2 t.args.length c2] 28 (0, 0))) (hsl : SlC Y I t.args a2 c2) :
    Calls Tryd.prog 10 #[.string ⟨#[97, 116, 111, 109, 95, 99, 111, 100, 101, 115]⟩, .slice (some ⟨B, 0, none⟩) 2 2] Y fun e w' => Ret (fun v w' => ∃ dv, v = .tuple #[dv, .int .i64 0] ∧ DidV w' (fun b => Y.heap.size ≤ b) (didIs 0 (atomT s)) dv ∧ Below Y.heap.size Y w') e w' := by
  have := do_codes_row n t s.data.toList a1 a2 c1 c2 B Y I hn ht h hsl
  rwa [bytes_back] at this
set_option maxHeartbeats 1000000 in
theorem back_long (s t : ByteArray) (w : World) (h : ¬ (s.size ≤ 400 ∧ t.size ≤ 400)) (hs : s.size ≤ maxLen) (ht : t.size ≤ maxLen) :
    Calls Tryd.prog 4 #[.string s, .string t] w fun e w' => e = .returned (.bool true) ∧ Below w.heap.size w w' := by
  unfold maxLen at hs ht
  by_cases h1 : s.size ≤ 400
  · have h2 : ¬ t.size ≤ 400 := fun h2 => h ⟨h1, h2⟩
    clear h
    go_enter Tryd.func4, Tryd.ntmps4
    go_wp2_with (go_at_call 6; refine Calls.mono (alive_any _) ?_; rintro e w1 ⟨rfl, hb1⟩; have HB1 := Lib.hid hb1; clear hb1)
    go_ret
    exact ⟨rfl, HB1.out⟩
  · clear h
    go_enter Tryd.func4, Tryd.ntmps4
    go_wp2_with (go_at_call 6; refine Calls.mono (alive_any _) ?_; rintro e w1 ⟨rfl, hb1⟩; have HB1 := Lib.hid hb1; clear hb1)
    go_ret
    exact ⟨rfl, HB1.out⟩

set_option maxHeartbeats 8000000 in
set_option maxRecDepth 100000 in
theorem back_short (s t : ByteArray) (w : World) (hs : s.size ≤ 400) (ht : t.size ≤ 400) :
    Calls Tryd.prog 4 #[.string s, .string t] w fun e w' => e = .returned (.bool true) ∧ Below w.heap.size w w' := by
  obtain ⟨TChars, hTChars⟩ : ∃ T, T = lst false s.data.toList := ⟨_, rfl⟩
  have HTChars := Lib.hid (And.intro hTChars (And.intro (show itemsF TChars.size TChars = (s.data.toList.map (byteT false), nilT) from hTChars ▸ items_lst false _) (And.intro (show (s.data.toList.map (byteT false)).length = s.size by rw [List.length_map, length_bytes]) (And.intro (show TChars.size ≤ 1000000000 by rw [hTChars, lst_size, length_bytes]; omega) (show OkList false TChars s.data.toList from hTChars ▸ ok_lst false _ (by rw [length_bytes]; omega))))))
  clear hTChars
  obtain ⟨TCodes, hTCodes⟩ : ∃ T, T = lst true s.data.toList := ⟨_, rfl⟩
  have HTCodes := Lib.hid (And.intro hTCodes (And.intro (show itemsF TCodes.size TCodes = (s.data.toList.map (byteT true), nilT) from hTCodes ▸ items_lst true _) (And.intro (show (s.data.toList.map (byteT true)).length = s.size by rw [List.length_map, length_bytes]) (And.intro (show TCodes.size ≤ 1000000000 by rw [hTCodes, lst_size, length_bytes]; omega) (show OkList true TCodes s.data.toList from hTCodes ▸ ok_lst true _ (by rw [length_bytes]; omega))))))
  clear hTCodes
  go_enter Tryd.func4, Tryd.ntmps4
  go_wp2_with (go_at_call 6; refine Calls.mono (alive_any _) ?_; rintro e wa ⟨rfl, hba⟩; have HBA := Lib.hid hba; clear hba)
  go_loopg [32] 2 (fun k i wr => ∃ j : Int, ((j = 0 ∧ k = 2) ∨ (j = 1 ∧ k = 1) ∨ (j = 2 ∧ k = 0)) ∧ i = .int .i64 j ∧ Below w.heap.size w wr)
  case atStart => exact ⟨0, .inl ⟨rfl, rfl⟩, rfl, HBA.out⟩
  case round =>
    obtain ⟨j, hj, rfl, hb⟩ := hrel
    have hwr := hb.size
    have HB0 := Lib.hid hb
    clear hb
    rcases hj with ⟨rfl, hk⟩ | ⟨rfl, hk⟩ | ⟨rfl, hk⟩
    · have hgk1 : 1 ≤ gk := by omega
      have HGK := Lib.hid hk
      clear hk
      go_upto_region 8 with ((with_reducible show wpList _ _ _ (Oper.mk (some 34) _ _ _ _ _ :: _) _ _); refine wpList_index rfl 42 _ _ rfl _ _ _ rfl rfl (run_name0 _) ?_)
      go_cut [7, 8] (fun s7 s8 wc => DidRel wr.heap.size wr (didIs 1 TChars) s7 s8 wc)
      case first =>
        go_wp2_with fail
        refine (lawa_any _ _).mono ?_
        rintro e w1 ⟨rfl, hb1⟩
        dsimp only [Act.put, tmVal, atomT, varT, intT, Tm.kind_mk, Tm.n_mk, Tm.s_mk, Tm.args_mk, List.length_nil]
        go_wp2_with fail
        refine (lawv_any _ _).mono ?_
        rintro e w2 ⟨rfl, hb2⟩
        dsimp only [Act.put, tmVal, atomT, varT, intT, Tm.kind_mk, Tm.n_mk, Tm.s_mk, Tm.args_mk, List.length_nil]
        go_wp2_with fail
        have hh := do_chars_name s 0 none none 0 0 w2.heap.size _ (by omega) (by decide) (heap_alloc_new w2 (.cells #[.int .i64 3, .int .i64 0, .string s, .slice none 0 0, .int .i64 1, .int .i64 0, .string ⟨#[]⟩, .slice none 0 0] 28))
        unfold nmChars at hh
        rw [← HTChars.out.1] at hh
        (with_reducible refine Calls.mono hh ?_)
        clear hh
        rintro e w3 ⟨_, rfl, _, rfl, ⟨p1, q1, p2, q2, p3, q3, rfl, h1, h2, h3⟩, hb3⟩
        have s1 := hb1.size
        have s2 := hb2.size
        have s3 := hb3.size
        rw [World.size_alloc] at s3
        have hbe : Below wr.heap.size wr w3 := hb1.trans ((hb2.mono s1).trans (((Below.refl _ w2).alloc (by omega) _).trans (hb3.mono (by rw [World.size_alloc]; omega))))
        have HD2 := Lib.hid (And.intro h1 (And.intro h2 h3))
        have HB := Lib.hid (And.intro hbe (And.intro s1 (And.intro s2 s3)))
        clear h1 h2 h3 hb1 hb2 hb3 hbe s1 s2 s3
        dsimp only [Act.put, didVal, didIs, noT, Tm.kind_mk, Tm.n_mk, Tm.s_mk, Tm.args_mk, List.length_nil, List.length_cons]
        go_wp2_with fail
        go_meet
        case rel =>
          obtain ⟨hbe, s1, s2, s3⟩ := HB.out
          refine ⟨rfl, ⟨_, p1, q1, p2, q2, p3, q3, rfl, ?_, ?_, ?_⟩, hbe.alloc (by omega) _⟩
          · simp only [World.size_alloc, World.size_setCell]; omega
          · omega
          · have hC := DidC.new' (d := didIs 1 TChars) (N := wr.heap.size) (T := 35) HD2.out (by simp only [World.size_alloc]; omega); exact hC
      case rest =>
        obtain ⟨rfl, ⟨P7, b1, d1, b2, d2, b3, d3, rfl, hl7, hN7, hC⟩, hbe⟩ := hcut
        have k0 := hC.k0
        have k1 := hC.k1
        have k2 := hC.k2
        have k3 := hC.k3
        have k4 := hC.k4
        have k5 := hC.k5
        have k6 := hC.k6
        simp only [didIs, noT, Tm.kind_mk, Tm.n_mk, Tm.s_mk, Tm.args_mk, List.length_nil, List.length_cons, Nat.zero_add] at k0 k1 k2 k3 k4 k5 k6
        have H7 := Lib.hid (And.intro hC hbe)
        clear hC hbe
        obtain ⟨W7, hW7⟩ : ∃ W7, W7 = wc := ⟨_, rfl⟩
        rw [← hW7] at H7 hl7 k0 k1 k2 k3 k4 k5 k6 ⊢
        clear hW7 wc
        go_wp2_with fail
        refine (only_is 1 TChars _ _ _ (DidC.val H7.out.1)).mono ?_
        rintro e w1 ⟨_, rfl, a, c, rfl, hsl, hb1⟩
        have hs1 := hb1.size
        have HO := Lib.hid (And.intro hsl hb1)
        clear k0 k1 k2 k3 k4 k5 k6 hsl hb1
        dsimp only [Act.put, tmVal]
        go_wp2_with fail
        have hh := ritems_any (fun b => (wr.heap.size ≤ b ∧ b ≠ P7) ∧ b < w1.heap.size) TChars a c (w1.alloc (.cells #[.int .i64 TChars.kind, .int .i64 TChars.n, .string TChars.s, .slice a TChars.args.length c] 28)) (fun b hb => by rw [World.size_alloc]; omega) (HO.out.1.there.alloc _) HTChars.out.2.2.2.1
        rw [HTChars.out.2.1] at hh
        dsimp only [tmVal, nilT, atomT, Tm.kind_mk, Tm.n_mk, Tm.s_mk, Tm.args_mk, List.length_nil] at hh
        rw [HTChars.out.2.2.1] at hh
        (with_reducible refine Calls.mono hh ?_)
        clear hh
        rintro e w2 ⟨_, rfl, a1, c1, a2, c2, rfl, _, _, hb2⟩
        have hs2 := hb2.size
        rw [World.size_alloc] at hs2
        have HO2 := Lib.hid hb2
        clear hb2
        dsimp only [Act.put]
        go_upto_region 13 with (fail)
        obtain ⟨W0, hW0⟩ : ∃ W0, W0 = w2.alloc (.cells #[.int .i64 3, .int .i64 0, .string ⟨#[91, 93]⟩, .slice a2 0 c2] 28) := ⟨_, rfl⟩
        rw [← hW0]
        obtain ⟨N, hN⟩ : ∃ N, N = W0.heap.size := ⟨_, rfl⟩
        have hNs : w2.heap.size + 1 = N := by rw [hN, hW0, World.size_alloc]
        have hbe7 : Below W7.heap.size W7 W0 := by
          rw [hW0]
          exact HO.out.2.trans ((((Below.refl _ w1).alloc (by omega) _).trans (HO2.out.mono (by rw [World.size_alloc]; omega))).alloc (by omega) _)
        have hC7 := H7.out.1.keep hbe7
        have hbox9 : W0.heap[w1.heap.size]? = some (.cells #[.int .i64 TChars.kind, .int .i64 TChars.n, .string TChars.s, .slice a TChars.args.length c] 28 (0, 0)) := by
          rw [hW0]; exact heap_old' (by omega) ((HO2.out.block _ (by rw [World.size_alloc]; omega)).trans (heap_alloc_new _ _))
        have hbox12 : W0.heap[w2.heap.size]? = some (.cells #[.int .i64 3, .int .i64 0, .string ⟨#[91, 93]⟩, .slice a2 0 c2] 28 (0, 0)) := by rw [hW0]; exact heap_alloc_new _ _
        have hlt7 : P7 < N := by have := hbe7.size; omega
        have hlt9 : w1.heap.size < N := by omega
        have h97 : ¬ w1.heap.size = P7 := by omega
        have hwc1 : W7.heap.size ≤ w1.heap.size := hs1
        have HSL : Hid (SlC W0 (fun b => True ∧ b ≠ P7) TChars.args a c) := by
          have h1 : SlC W0 (fun b => wr.heap.size ≤ b ∧ b ≠ P7) TChars.args a c := by
            rw [hW0]
            exact ((HO.out.1.alloc _).below HO2.out).alloc _
          exact h1.mono fun b hb => ⟨trivial, hb.2⟩
        have HSZ := Lib.hid hN.symm
        have hsz : N ≤ W0.heap.size := Nat.le_of_eq hN
        have x0 := cell_of_block hbox9 0 (by simp)
        simp only [List.getElem_toArray, List.getElem_cons_zero, List.getElem_cons_succ] at x0
        have x1 := cell_of_block hbox9 1 (by simp)
        simp only [List.getElem_toArray, List.getElem_cons_zero, List.getElem_cons_succ] at x1
        have x2 := cell_of_block hbox9 2 (by simp)
        simp only [List.getElem_toArray, List.getElem_cons_zero, List.getElem_cons_succ] at x2
        have x3 := cell_of_block hbox9 3 (by simp)
        simp only [List.getElem_toArray, List.getElem_cons_zero, List.getElem_cons_succ] at x3
        have k0 := hC7.k0
        have k1 := hC7.k1
        have k2 := hC7.k2
        have k3 := hC7.k3
        have k4 := hC7.k4
        have k5 := hC7.k5
        have k6 := hC7.k6
        have H13 := Lib.hid (And.intro hbe7 (And.intro hC7 (And.intro hbox12 (And.intro hbox9 (And.intro hNs (And.intro hN (And.intro k0 (And.intro k1 (And.intro k2 (And.intro k3 (And.intro k4 (And.intro k5 k6))))))))))))
        clear hbe7 hC7 hbox12 hbox9 hN hW0 k0 k1 k2 k3 k4 k5 k6
        go_cut [8] (fun s8 wX => s8 = .int .i64 0 ∧ Fr (· = P7) W0 wX ∧ ∃ b1 d1 b2 d2 b3 d3, DidC wX (fun b => N ≤ b ∧ b ≠ P7) (didIs 0 (atomT s)) P7 b1 d1 b2 d2 b3 d3)
        case first =>
          go_region_held3 (fun w' => (∀ a : Addr, a.block < N → a.block ≠ P7 → w'.cell? a = W0.cell? a) ∧ Hid (Fr (· = P7) W0 w' ∧ N ≤ w'.heap.size))
            (first | with_reducible exact kq_start HSZ.out | ((with_reducible refine kq_put7 HSZ.out ?_); assumption) | ((with_reducible refine kq_alloc HSZ.out ?_); assumption) | ((with_reducible apply kq_keep HSZ.out); all_goals assumption))
            (first | (go_at_call 16; refine Calls.mono (lawv_any 0 _) ?_; rintro e wv ⟨rfl, hbv⟩; have hsv := hbv.size; try simp only [World.size_alloc, World.size_drew] at hsv; have HC1 := Lib.hid ((H13.out.2.1.keep (Below.drew (Below.refl _ _))).keep hbv); dsimp only [tmVal, varT, Tm.kind_mk, Tm.n_mk, Tm.s_mk, Tm.args_mk, List.length_nil]) | (go_at_call 10; refine Calls.mono (do_chars_back s 0 TChars none a 0 c _ _ _ (by decide) HTChars.out.2.2.2.2 (by ((try rw [drew_heap]); (first | assumption | exact heap_new' (by first | omega | (simp only [World.size_alloc, World.size_setCell, World.size_drew]; done) | (simp only [World.size_alloc, World.size_setCell, World.size_drew]; omega)) | (refine heap_old' (by first | omega | (simp only [World.size_alloc, World.size_setCell, World.size_drew]; done) | (simp only [World.size_alloc, World.size_setCell, World.size_drew]; omega)) ?_; (try rw [drew_heap]); (first | assumption | exact heap_new' (by first | omega | (simp only [World.size_alloc, World.size_setCell, World.size_drew]; done) | (simp only [World.size_alloc, World.size_setCell, World.size_drew]; omega)) | (refine heap_old' (by first | omega | (simp only [World.size_alloc, World.size_setCell, World.size_drew]; done) | (simp only [World.size_alloc, World.size_setCell, World.size_drew]; omega)) ?_; (try rw [drew_heap]); (first | assumption | exact heap_new' (by first | omega | (simp only [World.size_alloc, World.size_setCell, World.size_drew]; done) | (simp only [World.size_alloc, World.size_setCell, World.size_drew]; omega)) | (refine heap_old' (by first | omega | (simp only [World.size_alloc, World.size_setCell, World.size_drew]; done) | (simp only [World.size_alloc, World.size_setCell, World.size_drew]; omega)) ?_; (try rw [drew_heap]); (first | assumption | exact heap_new' (by first | omega | (simp only [World.size_alloc, World.size_setCell, World.size_drew]; done) | (simp only [World.size_alloc, World.size_setCell, World.size_drew]; omega)) | (refine heap_old' (by first | omega | (simp only [World.size_alloc, World.size_setCell, World.size_drew]; done) | (simp only [World.size_alloc, World.size_setCell, World.size_drew]; omega)) ?_; (try rw [drew_heap]); (first | assumption | exact heap_new' (by first | omega | (simp only [World.size_alloc, World.size_setCell, World.size_drew]; done) | (simp only [World.size_alloc, World.size_setCell, World.size_drew]; omega)) | (refine heap_old' (by first | omega | (simp only [World.size_alloc, World.size_setCell, World.size_drew]; done) | (simp only [World.size_alloc, World.size_setCell, World.size_drew]; omega)) ?_; (try rw [drew_heap]); assumption)))))))))))) (kq_sl HSL.out (by assumption))) ?_; rintro e wd ⟨_, rfl, _, rfl, ⟨p1, q1, p2, q2, p3, q3, rfl, h1, h2, h3⟩, hbd⟩; have HD2 := Lib.hid (And.intro h1 (And.intro h2 h3)); have hC2 := (HC1.out.keep ((Below.refl _ _).alloc (Nat.le_refl _) _)).keep hbd; have hsd := hbd.size; try simp only [World.size_alloc, World.size_drew] at hsd; obtain ⟨cs, TT, hblk, hcs⟩ := hC2.blk; have y0 := hC2.k0; have y1 := hC2.k1; have y2 := hC2.k2; have y3 := hC2.k3; have y4 := hC2.k4; have y5 := hC2.k5; have y6 := hC2.k6; have z0 := frozen_of_block hblk 0; have z1 := frozen_of_block hblk 1; have z2 := frozen_of_block hblk 2; have z3 := frozen_of_block hblk 3; have z4 := frozen_of_block hblk 4; have z5 := frozen_of_block hblk 5; have z6 := frozen_of_block hblk 6; have HK7 := Lib.hid (And.intro hblk hcs); clear h1 h2 h3 hC2 hblk hcs; dsimp only [didVal, didIs, noT, atomT, Tm.kind_mk, Tm.n_mk, Tm.s_mk, Tm.args_mk, List.length_nil, List.length_cons]))
          all_goals
            have HK := Lib.hid (show Hid _ from (by assumption : _ ∧ _).2)
            go_wp2_with fail
            go_meet
            case rel =>
              refine ⟨rfl, HK.out.out.1, p1, q1, p2, q2, p3, q3, ?_⟩
              have hC := DidC.put' (d := didIs 0 (atomT s)) (N := N) HK7.out.1 HK7.out.2 HD2.out (by simp only [World.size_alloc]; omega) (by simp only [World.size_alloc]; omega)
              exact hC
        case rest =>
          obtain ⟨rfl, hfX, e1, f1, e2, f2, e3, f3, hC⟩ := hcut
          have k0 := hC.k0
          have k1 := hC.k1
          have k2 := hC.k2
          have k3 := hC.k3
          have k4 := hC.k4
          have k5 := hC.k5
          have k6 := hC.k6
          simp only [didIs, noT, atomT, Tm.kind_mk, Tm.n_mk, Tm.s_mk, Tm.args_mk, List.length_nil, List.length_cons, Nat.zero_add] at k0 k1 k2 k3 k4 k5 k6
          have hbX : wc.heap[w2.heap.size]? = some (.cells #[.int .i64 3, .int .i64 0, .string ⟨#[91, 93]⟩, .slice a2 0 c2] 28 (0, 0)) := (hfX.block _ (by omega) (by omega)).trans H13.out.2.2.1
          have hsX := hfX.size
          have HX := Lib.hid (And.intro hC (And.intro hfX hbX))
          clear hC hfX hbX x0 x1 x2 x3
          go_wp2_with fail
          refine (only_is 0 (atomT s) _ _ _ (DidC.val HX.out.1)).mono ?_
          rintro e w4 ⟨_, rfl, ab, cb, rfl, _, hb4⟩
          have hs4 := hb4.size
          have HB4 := Lib.hid hb4
          clear hb4 k0 k1 k2 k3 k4 k5 k6
          dsimp only [Act.put, tmVal, atomT, varT, intT, Tm.kind_mk, Tm.n_mk, Tm.s_mk, Tm.args_mk, List.length_nil]
          go_upto_region 15 with (fail)
          obtain ⟨W5, hW5⟩ : ∃ W5, W5 = w4.alloc (.cells #[.int .i64 3, .int .i64 0, .string s, .slice ab 0 cb] 28) := ⟨_, rfl⟩
          rw [← hW5]
          have hbox13 : W5.heap[w4.heap.size]? = some (.cells #[.int .i64 3, .int .i64 0, .string s, .slice ab 0 cb] 28 (0, 0)) := by rw [hW5]; exact heap_alloc_new _ _
          have hbox12 : W5.heap[w2.heap.size]? = some (.cells #[.int .i64 3, .int .i64 0, .string ⟨#[91, 93]⟩, .slice a2 0 c2] 28 (0, 0)) := by rw [hW5]; exact heap_old' (by omega) ((HB4.out.block _ (by omega)).trans HX.out.2.2)
          have hbe5 : Below w4.heap.size w4 W5 := by rw [hW5]; exact (Below.refl _ _).alloc (Nat.le_refl _) _
          obtain ⟨M, hM⟩ : ∃ M, M = W5.heap.size := ⟨_, rfl⟩
          have hM4 : w4.heap.size + 1 = M := by rw [hM, hW5, World.size_alloc]
          have hl12 : w2.heap.size < M := by omega
          have hl13 : w4.heap.size < M := by omega
          have HSM := Lib.hid hM.symm
          have hszM : M ≤ W5.heap.size := Nat.le_of_eq hM
          have y0 := cell_of_block hbox12 0 (by simp)
          simp only [List.getElem_toArray, List.getElem_cons_zero, List.getElem_cons_succ] at y0
          have y1 := cell_of_block hbox12 1 (by simp)
          simp only [List.getElem_toArray, List.getElem_cons_zero, List.getElem_cons_succ] at y1
          have y2 := cell_of_block hbox12 2 (by simp)
          simp only [List.getElem_toArray, List.getElem_cons_zero, List.getElem_cons_succ] at y2
          have y3 := cell_of_block hbox12 3 (by simp)
          simp only [List.getElem_toArray, List.getElem_cons_zero, List.getElem_cons_succ] at y3
          have x0 := cell_of_block hbox13 0 (by simp)
          simp only [List.getElem_toArray, List.getElem_cons_zero, List.getElem_cons_succ] at x0
          have x1 := cell_of_block hbox13 1 (by simp)
          simp only [List.getElem_toArray, List.getElem_cons_zero, List.getElem_cons_succ] at x1
          have x2 := cell_of_block hbox13 2 (by simp)
          simp only [List.getElem_toArray, List.getElem_cons_zero, List.getElem_cons_succ] at x2
          have x3 := cell_of_block hbox13 3 (by simp)
          simp only [List.getElem_toArray, List.getElem_cons_zero, List.getElem_cons_succ] at x3
          have H15 := Lib.hid (And.intro hbe5 hM4)
          clear hbox12 hbox13 hbe5 hM hW5 hM4
          go_region_held3 (fun w' => (∀ a : Addr, a.block < M → w'.cell? a = W5.cell? a) ∧ Hid (Below M W5 w' ∧ M ≤ w'.heap.size))
            (first | with_reducible exact kp_start HSM.out | ((with_reducible refine kp_alloc ?_); assumption) | ((with_reducible apply kp_keep); all_goals assumption))
            (first | (go_at_call 15; refine Calls.mono (lawa_any s _) ?_; rintro e wv ⟨rfl, hbv⟩; dsimp only [tmVal, atomT, Tm.kind_mk, Tm.n_mk, Tm.s_mk, Tm.args_mk, List.length_nil]) | (go_at_call 19; refine Calls.mono (sameRef_atoms s s ab none cb 0 _) ?_; rintro e wd ⟨rfl, hbd⟩; rw [beq_self]))
          all_goals
            have HK := Lib.hid (show Hid _ from (by assumption : _ ∧ _).2)
            go_wp2_with fail
            go_roundg (gk - 1)
            case measure => omega
            case rel =>
              have h4 : Below w.heap.size W0 wc := HX.out.2.1.below (by have := H13.out.1.size; have := H7.out.2.size; omega) fun k hk => by omega
              have h7 : Below W5.heap.size W5 wd := by have h := HK.out.out.1; rw [← HSM.out] at h; exact h
              exact ⟨1, .inr (.inl ⟨rfl, by have := HGK.out; omega⟩), rfl, bchain (bchain (bchain ((bchain (bchain HB0.out H7.out.2) H13.out.1).trans h4) HB4.out) H15.out.1) h7⟩
    · have hgk1 : 1 ≤ gk := by omega
      have HGK := Lib.hid hk
      clear hk
      go_upto_region 8 with ((with_reducible show wpList _ _ _ (Oper.mk (some 34) _ _ _ _ _ :: _) _ _); refine wpList_index rfl 42 _ _ rfl _ _ _ rfl rfl (run_name1 _) ?_)
      go_cut [7, 8] (fun s7 s8 wc => DidRel wr.heap.size wr (didIs 1 TCodes) s7 s8 wc)
      case first =>
        go_wp2_with fail
        refine (lawa_any _ _).mono ?_
        rintro e w1 ⟨rfl, hb1⟩
        dsimp only [Act.put, tmVal, atomT, varT, intT, Tm.kind_mk, Tm.n_mk, Tm.s_mk, Tm.args_mk, List.length_nil]
        go_wp2_with fail
        refine (lawv_any _ _).mono ?_
        rintro e w2 ⟨rfl, hb2⟩
        dsimp only [Act.put, tmVal, atomT, varT, intT, Tm.kind_mk, Tm.n_mk, Tm.s_mk, Tm.args_mk, List.length_nil]
        go_wp2_with fail
        have hh := do_codes_name s 0 none none 0 0 w2.heap.size _ (by omega) (by decide) (heap_alloc_new w2 (.cells #[.int .i64 3, .int .i64 0, .string s, .slice none 0 0, .int .i64 1, .int .i64 0, .string ⟨#[]⟩, .slice none 0 0] 28))
        unfold nmCodes at hh
        rw [← HTCodes.out.1] at hh
        (with_reducible refine Calls.mono hh ?_)
        clear hh
        rintro e w3 ⟨_, rfl, _, rfl, ⟨p1, q1, p2, q2, p3, q3, rfl, h1, h2, h3⟩, hb3⟩
        have s1 := hb1.size
        have s2 := hb2.size
        have s3 := hb3.size
        rw [World.size_alloc] at s3
        have hbe : Below wr.heap.size wr w3 := hb1.trans ((hb2.mono s1).trans (((Below.refl _ w2).alloc (by omega) _).trans (hb3.mono (by rw [World.size_alloc]; omega))))
        have HD2 := Lib.hid (And.intro h1 (And.intro h2 h3))
        have HB := Lib.hid (And.intro hbe (And.intro s1 (And.intro s2 s3)))
        clear h1 h2 h3 hb1 hb2 hb3 hbe s1 s2 s3
        dsimp only [Act.put, didVal, didIs, noT, Tm.kind_mk, Tm.n_mk, Tm.s_mk, Tm.args_mk, List.length_nil, List.length_cons]
        go_wp2_with fail
        go_meet
        case rel =>
          obtain ⟨hbe, s1, s2, s3⟩ := HB.out
          refine ⟨rfl, ⟨_, p1, q1, p2, q2, p3, q3, rfl, ?_, ?_, ?_⟩, hbe.alloc (by omega) _⟩
          · simp only [World.size_alloc, World.size_setCell]; omega
          · omega
          · have hC := DidC.new' (d := didIs 1 TCodes) (N := wr.heap.size) (T := 35) HD2.out (by simp only [World.size_alloc]; omega); exact hC
      case rest =>
        obtain ⟨rfl, ⟨P7, b1, d1, b2, d2, b3, d3, rfl, hl7, hN7, hC⟩, hbe⟩ := hcut
        have k0 := hC.k0
        have k1 := hC.k1
        have k2 := hC.k2
        have k3 := hC.k3
        have k4 := hC.k4
        have k5 := hC.k5
        have k6 := hC.k6
        simp only [didIs, noT, Tm.kind_mk, Tm.n_mk, Tm.s_mk, Tm.args_mk, List.length_nil, List.length_cons, Nat.zero_add] at k0 k1 k2 k3 k4 k5 k6
        have H7 := Lib.hid (And.intro hC hbe)
        clear hC hbe
        obtain ⟨W7, hW7⟩ : ∃ W7, W7 = wc := ⟨_, rfl⟩
        rw [← hW7] at H7 hl7 k0 k1 k2 k3 k4 k5 k6 ⊢
        clear hW7 wc
        go_wp2_with fail
        refine (only_is 1 TCodes _ _ _ (DidC.val H7.out.1)).mono ?_
        rintro e w1 ⟨_, rfl, a, c, rfl, hsl, hb1⟩
        have hs1 := hb1.size
        have HO := Lib.hid (And.intro hsl hb1)
        clear k0 k1 k2 k3 k4 k5 k6 hsl hb1
        dsimp only [Act.put, tmVal]
        go_wp2_with fail
        have hh := ritems_any (fun b => (wr.heap.size ≤ b ∧ b ≠ P7) ∧ b < w1.heap.size) TCodes a c (w1.alloc (.cells #[.int .i64 TCodes.kind, .int .i64 TCodes.n, .string TCodes.s, .slice a TCodes.args.length c] 28)) (fun b hb => by rw [World.size_alloc]; omega) (HO.out.1.there.alloc _) HTCodes.out.2.2.2.1
        rw [HTCodes.out.2.1] at hh
        dsimp only [tmVal, nilT, atomT, Tm.kind_mk, Tm.n_mk, Tm.s_mk, Tm.args_mk, List.length_nil] at hh
        rw [HTCodes.out.2.2.1] at hh
        (with_reducible refine Calls.mono hh ?_)
        clear hh
        rintro e w2 ⟨_, rfl, a1, c1, a2, c2, rfl, _, _, hb2⟩
        have hs2 := hb2.size
        rw [World.size_alloc] at hs2
        have HO2 := Lib.hid hb2
        clear hb2
        dsimp only [Act.put]
        go_upto_region 13 with (fail)
        obtain ⟨W0, hW0⟩ : ∃ W0, W0 = w2.alloc (.cells #[.int .i64 3, .int .i64 0, .string ⟨#[91, 93]⟩, .slice a2 0 c2] 28) := ⟨_, rfl⟩
        rw [← hW0]
        obtain ⟨N, hN⟩ : ∃ N, N = W0.heap.size := ⟨_, rfl⟩
        have hNs : w2.heap.size + 1 = N := by rw [hN, hW0, World.size_alloc]
        have hbe7 : Below W7.heap.size W7 W0 := by
          rw [hW0]
          exact HO.out.2.trans ((((Below.refl _ w1).alloc (by omega) _).trans (HO2.out.mono (by rw [World.size_alloc]; omega))).alloc (by omega) _)
        have hC7 := H7.out.1.keep hbe7
        have hbox9 : W0.heap[w1.heap.size]? = some (.cells #[.int .i64 TCodes.kind, .int .i64 TCodes.n, .string TCodes.s, .slice a TCodes.args.length c] 28 (0, 0)) := by
          rw [hW0]; exact heap_old' (by omega) ((HO2.out.block _ (by rw [World.size_alloc]; omega)).trans (heap_alloc_new _ _))
        have hbox12 : W0.heap[w2.heap.size]? = some (.cells #[.int .i64 3, .int .i64 0, .string ⟨#[91, 93]⟩, .slice a2 0 c2] 28 (0, 0)) := by rw [hW0]; exact heap_alloc_new _ _
        have hlt7 : P7 < N := by have := hbe7.size; omega
        have hlt9 : w1.heap.size < N := by omega
        have h97 : ¬ w1.heap.size = P7 := by omega
        have hwc1 : W7.heap.size ≤ w1.heap.size := hs1
        have HSL : Hid (SlC W0 (fun b => True ∧ b ≠ P7) TCodes.args a c) := by
          have h1 : SlC W0 (fun b => wr.heap.size ≤ b ∧ b ≠ P7) TCodes.args a c := by
            rw [hW0]
            exact ((HO.out.1.alloc _).below HO2.out).alloc _
          exact h1.mono fun b hb => ⟨trivial, hb.2⟩
        have HSZ := Lib.hid hN.symm
        have hsz : N ≤ W0.heap.size := Nat.le_of_eq hN
        have x0 := cell_of_block hbox9 0 (by simp)
        simp only [List.getElem_toArray, List.getElem_cons_zero, List.getElem_cons_succ] at x0
        have x1 := cell_of_block hbox9 1 (by simp)
        simp only [List.getElem_toArray, List.getElem_cons_zero, List.getElem_cons_succ] at x1
        have x2 := cell_of_block hbox9 2 (by simp)
        simp only [List.getElem_toArray, List.getElem_cons_zero, List.getElem_cons_succ] at x2
        have x3 := cell_of_block hbox9 3 (by simp)
        simp only [List.getElem_toArray, List.getElem_cons_zero, List.getElem_cons_succ] at x3
        have k0 := hC7.k0
        have k1 := hC7.k1
        have k2 := hC7.k2
        have k3 := hC7.k3
        have k4 := hC7.k4
        have k5 := hC7.k5
        have k6 := hC7.k6
        have H13 := Lib.hid (And.intro hbe7 (And.intro hC7 (And.intro hbox12 (And.intro hbox9 (And.intro hNs (And.intro hN (And.intro k0 (And.intro k1 (And.intro k2 (And.intro k3 (And.intro k4 (And.intro k5 k6))))))))))))
        clear hbe7 hC7 hbox12 hbox9 hN hW0 k0 k1 k2 k3 k4 k5 k6
        go_cut [8] (fun s8 wX => s8 = .int .i64 0 ∧ Fr (· = P7) W0 wX ∧ ∃ b1 d1 b2 d2 b3 d3, DidC wX (fun b => N ≤ b ∧ b ≠ P7) (didIs 0 (atomT s)) P7 b1 d1 b2 d2 b3 d3)
        case first =>
          go_region_held3 (fun w' => (∀ a : Addr, a.block < N → a.block ≠ P7 → w'.cell? a = W0.cell? a) ∧ Hid (Fr (· = P7) W0 w' ∧ N ≤ w'.heap.size))
            (first | with_reducible exact kq_start HSZ.out | ((with_reducible refine kq_put7 HSZ.out ?_); assumption) | ((with_reducible refine kq_alloc HSZ.out ?_); assumption) | ((with_reducible apply kq_keep HSZ.out); all_goals assumption))
            (first | (go_at_call 16; refine Calls.mono (lawv_any 0 _) ?_; rintro e wv ⟨rfl, hbv⟩; have hsv := hbv.size; try simp only [World.size_alloc, World.size_drew] at hsv; have HC1 := Lib.hid ((H13.out.2.1.keep (Below.drew (Below.refl _ _))).keep hbv); dsimp only [tmVal, varT, Tm.kind_mk, Tm.n_mk, Tm.s_mk, Tm.args_mk, List.length_nil]) | (go_at_call 10; refine Calls.mono (do_codes_back s 0 TCodes none a 0 c _ _ _ (by decide) HTCodes.out.2.2.2.2 (by ((try rw [drew_heap]); (first | assumption | exact heap_new' (by first | omega | (simp only [World.size_alloc, World.size_setCell, World.size_drew]; done) | (simp only [World.size_alloc, World.size_setCell, World.size_drew]; omega)) | (refine heap_old' (by first | omega | (simp only [World.size_alloc, World.size_setCell, World.size_drew]; done) | (simp only [World.size_alloc, World.size_setCell, World.size_drew]; omega)) ?_; (try rw [drew_heap]); (first | assumption | exact heap_new' (by first | omega | (simp only [World.size_alloc, World.size_setCell, World.size_drew]; done) | (simp only [World.size_alloc, World.size_setCell, World.size_drew]; omega)) | (refine heap_old' (by first | omega | (simp only [World.size_alloc, World.size_setCell, World.size_drew]; done) | (simp only [World.size_alloc, World.size_setCell, World.size_drew]; omega)) ?_; (try rw [drew_heap]); (first | assumption | exact heap_new' (by first | omega | (simp only [World.size_alloc, World.size_setCell, World.size_drew]; done) | (simp only [World.size_alloc, World.size_setCell, World.size_drew]; omega)) | (refine heap_old' (by first | omega | (simp only [World.size_alloc, World.size_setCell, World.size_drew]; done) | (simp only [World.size_alloc, World.size_setCell, World.size_drew]; omega)) ?_; (try rw [drew_heap]); (first | assumption | exact heap_new' (by first | omega | (simp only [World.size_alloc, World.size_setCell, World.size_drew]; done) | (simp only [World.size_alloc, World.size_setCell, World.size_drew]; omega)) | (refine heap_old' (by first | omega | (simp only [World.size_alloc, World.size_setCell, World.size_drew]; done) | (simp only [World.size_alloc, World.size_setCell, World.size_drew]; omega)) ?_; (try rw [drew_heap]); (first | assumption | exact heap_new' (by first | omega | (simp only [World.size_alloc, World.size_setCell, World.size_drew]; done) | (simp only [World.size_alloc, World.size_setCell, World.size_drew]; omega)) | (refine heap_old' (by first | omega | (simp only [World.size_alloc, World.size_setCell, World.size_drew]; done) | (simp only [World.size_alloc, World.size_setCell, World.size_drew]; omega)) ?_; (try rw [drew_heap]); assumption)))))))))))) (kq_sl HSL.out (by assumption))) ?_; rintro e wd ⟨_, rfl, _, rfl, ⟨p1, q1, p2, q2, p3, q3, rfl, h1, h2, h3⟩, hbd⟩; have HD2 := Lib.hid (And.intro h1 (And.intro h2 h3)); have hC2 := (HC1.out.keep ((Below.refl _ _).alloc (Nat.le_refl _) _)).keep hbd; have hsd := hbd.size; try simp only [World.size_alloc, World.size_drew] at hsd; obtain ⟨cs, TT, hblk, hcs⟩ := hC2.blk; have y0 := hC2.k0; have y1 := hC2.k1; have y2 := hC2.k2; have y3 := hC2.k3; have y4 := hC2.k4; have y5 := hC2.k5; have y6 := hC2.k6; have z0 := frozen_of_block hblk 0; have z1 := frozen_of_block hblk 1; have z2 := frozen_of_block hblk 2; have z3 := frozen_of_block hblk 3; have z4 := frozen_of_block hblk 4; have z5 := frozen_of_block hblk 5; have z6 := frozen_of_block hblk 6; have HK7 := Lib.hid (And.intro hblk hcs); clear h1 h2 h3 hC2 hblk hcs; dsimp only [didVal, didIs, noT, atomT, Tm.kind_mk, Tm.n_mk, Tm.s_mk, Tm.args_mk, List.length_nil, List.length_cons]))
          all_goals
            have HK := Lib.hid (show Hid _ from (by assumption : _ ∧ _).2)
            go_wp2_with fail
            go_meet
            case rel =>
              refine ⟨rfl, HK.out.out.1, p1, q1, p2, q2, p3, q3, ?_⟩
              have hC := DidC.put' (d := didIs 0 (atomT s)) (N := N) HK7.out.1 HK7.out.2 HD2.out (by simp only [World.size_alloc]; omega) (by simp only [World.size_alloc]; omega)
              exact hC
        case rest =>
          obtain ⟨rfl, hfX, e1, f1, e2, f2, e3, f3, hC⟩ := hcut
          have k0 := hC.k0
          have k1 := hC.k1
          have k2 := hC.k2
          have k3 := hC.k3
          have k4 := hC.k4
          have k5 := hC.k5
          have k6 := hC.k6
          simp only [didIs, noT, atomT, Tm.kind_mk, Tm.n_mk, Tm.s_mk, Tm.args_mk, List.length_nil, List.length_cons, Nat.zero_add] at k0 k1 k2 k3 k4 k5 k6
          have hbX : wc.heap[w2.heap.size]? = some (.cells #[.int .i64 3, .int .i64 0, .string ⟨#[91, 93]⟩, .slice a2 0 c2] 28 (0, 0)) := (hfX.block _ (by omega) (by omega)).trans H13.out.2.2.1
          have hsX := hfX.size
          have HX := Lib.hid (And.intro hC (And.intro hfX hbX))
          clear hC hfX hbX x0 x1 x2 x3
          go_wp2_with fail
          refine (only_is 0 (atomT s) _ _ _ (DidC.val HX.out.1)).mono ?_
          rintro e w4 ⟨_, rfl, ab, cb, rfl, _, hb4⟩
          have hs4 := hb4.size
          have HB4 := Lib.hid hb4
          clear hb4 k0 k1 k2 k3 k4 k5 k6
          dsimp only [Act.put, tmVal, atomT, varT, intT, Tm.kind_mk, Tm.n_mk, Tm.s_mk, Tm.args_mk, List.length_nil]
          go_upto_region 15 with (fail)
          obtain ⟨W5, hW5⟩ : ∃ W5, W5 = w4.alloc (.cells #[.int .i64 3, .int .i64 0, .string s, .slice ab 0 cb] 28) := ⟨_, rfl⟩
          rw [← hW5]
          have hbox13 : W5.heap[w4.heap.size]? = some (.cells #[.int .i64 3, .int .i64 0, .string s, .slice ab 0 cb] 28 (0, 0)) := by rw [hW5]; exact heap_alloc_new _ _
          have hbox12 : W5.heap[w2.heap.size]? = some (.cells #[.int .i64 3, .int .i64 0, .string ⟨#[91, 93]⟩, .slice a2 0 c2] 28 (0, 0)) := by rw [hW5]; exact heap_old' (by omega) ((HB4.out.block _ (by omega)).trans HX.out.2.2)
          have hbe5 : Below w4.heap.size w4 W5 := by rw [hW5]; exact (Below.refl _ _).alloc (Nat.le_refl _) _
          obtain ⟨M, hM⟩ : ∃ M, M = W5.heap.size := ⟨_, rfl⟩
          have hM4 : w4.heap.size + 1 = M := by rw [hM, hW5, World.size_alloc]
          have hl12 : w2.heap.size < M := by omega
          have hl13 : w4.heap.size < M := by omega
          have HSM := Lib.hid hM.symm
          have hszM : M ≤ W5.heap.size := Nat.le_of_eq hM
          have y0 := cell_of_block hbox12 0 (by simp)
          simp only [List.getElem_toArray, List.getElem_cons_zero, List.getElem_cons_succ] at y0
          have y1 := cell_of_block hbox12 1 (by simp)
          simp only [List.getElem_toArray, List.getElem_cons_zero, List.getElem_cons_succ] at y1
          have y2 := cell_of_block hbox12 2 (by simp)
          simp only [List.getElem_toArray, List.getElem_cons_zero, List.getElem_cons_succ] at y2
          have y3 := cell_of_block hbox12 3 (by simp)
          simp only [List.getElem_toArray, List.getElem_cons_zero, List.getElem_cons_succ] at y3
          have x0 := cell_of_block hbox13 0 (by simp)
          simp only [List.getElem_toArray, List.getElem_cons_zero, List.getElem_cons_succ] at x0
          have x1 := cell_of_block hbox13 1 (by simp)
          simp only [List.getElem_toArray, List.getElem_cons_zero, List.getElem_cons_succ] at x1
          have x2 := cell_of_block hbox13 2 (by simp)
          simp only [List.getElem_toArray, List.getElem_cons_zero, List.getElem_cons_succ] at x2
          have x3 := cell_of_block hbox13 3 (by simp)
          simp only [List.getElem_toArray, List.getElem_cons_zero, List.getElem_cons_succ] at x3
          have H15 := Lib.hid (And.intro hbe5 hM4)
          clear hbox12 hbox13 hbe5 hM hW5 hM4
          go_region_held3 (fun w' => (∀ a : Addr, a.block < M → w'.cell? a = W5.cell? a) ∧ Hid (Below M W5 w' ∧ M ≤ w'.heap.size))
            (first | with_reducible exact kp_start HSM.out | ((with_reducible refine kp_alloc ?_); assumption) | ((with_reducible apply kp_keep); all_goals assumption))
            (first | (go_at_call 15; refine Calls.mono (lawa_any s _) ?_; rintro e wv ⟨rfl, hbv⟩; dsimp only [tmVal, atomT, Tm.kind_mk, Tm.n_mk, Tm.s_mk, Tm.args_mk, List.length_nil]) | (go_at_call 19; refine Calls.mono (sameRef_atoms s s ab none cb 0 _) ?_; rintro e wd ⟨rfl, hbd⟩; rw [beq_self]))
          all_goals
            have HK := Lib.hid (show Hid _ from (by assumption : _ ∧ _).2)
            go_wp2_with fail
            go_roundg (gk - 1)
            case measure => omega
            case rel =>
              have h4 : Below w.heap.size W0 wc := HX.out.2.1.below (by have := H13.out.1.size; have := H7.out.2.size; omega) fun k hk => by omega
              have h7 : Below W5.heap.size W5 wd := by have h := HK.out.out.1; rw [← HSM.out] at h; exact h
              exact ⟨2, .inr (.inr ⟨rfl, by have := HGK.out; omega⟩), rfl, bchain (bchain (bchain ((bchain (bchain HB0.out H7.out.2) H13.out.1).trans h4) HB4.out) H15.out.1) h7⟩
    · go_upto_region 18 with (fail)
      go_cut [15, 16] (fun s15 s16 wc => DidRel wr.heap.size wr (didIs 1 (intT s.size)) s15 s16 wc)
      case first =>
        go_wp2_with fail
        refine (lawa_any _ _).mono ?_
        rintro e w1 ⟨rfl, hb1⟩
        dsimp only [Act.put, tmVal, atomT, varT, intT, Tm.kind_mk, Tm.n_mk, Tm.s_mk, Tm.args_mk, List.length_nil]
        go_wp2_with fail
        refine (lawv_any _ _).mono ?_
        rintro e w2 ⟨rfl, hb2⟩
        dsimp only [Act.put, tmVal, atomT, varT, intT, Tm.kind_mk, Tm.n_mk, Tm.s_mk, Tm.args_mk, List.length_nil]
        go_wp2_with fail
        refine (do_len_row s 0 none none 0 0 w2.heap.size _ (by omega) (by decide) (heap_alloc_new _ _)).mono ?_
        rintro e w3 ⟨_, rfl, _, rfl, ⟨p1, q1, p2, q2, p3, q3, rfl, h1, h2, h3⟩, hb3⟩
        have s1 := hb1.size
        have s2 := hb2.size
        have s3 := hb3.size
        rw [World.size_alloc] at s3
        have hbe : Below wr.heap.size wr w3 := hb1.trans ((hb2.mono s1).trans (((Below.refl _ w2).alloc (by omega) _).trans (hb3.mono (by rw [World.size_alloc]; omega))))
        have HD2 := Lib.hid (And.intro h1 (And.intro h2 h3))
        have HB := Lib.hid (And.intro hbe (And.intro s1 (And.intro s2 s3)))
        clear h1 h2 h3 hb1 hb2 hb3 hbe s1 s2 s3
        dsimp only [Act.put, didVal, didIs, noT, intT, Tm.kind_mk, Tm.n_mk, Tm.s_mk, Tm.args_mk, List.length_nil, List.length_cons]
        go_wp2_with fail
        go_meet
        case rel =>
          obtain ⟨hbe, s1, s2, s3⟩ := HB.out
          refine ⟨rfl, ⟨_, p1, q1, p2, q2, p3, q3, rfl, ?_, ?_, ?_⟩, hbe.alloc (by omega) _⟩
          · simp only [World.size_alloc, World.size_setCell]; omega
          · omega
          · have hC := DidC.new' (d := didIs 1 (intT s.size)) (N := wr.heap.size) (T := 35) HD2.out (by simp only [World.size_alloc]; omega); exact hC
      case rest =>
        obtain ⟨rfl, ⟨P15, b1, d1, b2, d2, b3, d3, rfl, hl15, hN15, hC⟩, hbe⟩ := hcut
        have k0 := hC.k0
        have k1 := hC.k1
        have k2 := hC.k2
        have k3 := hC.k3
        have k4 := hC.k4
        have k5 := hC.k5
        have k6 := hC.k6
        simp only [didIs, noT, intT, Tm.kind_mk, Tm.n_mk, Tm.s_mk, Tm.args_mk, List.length_nil, List.length_cons, Nat.zero_add] at k0 k1 k2 k3 k4 k5 k6
        have H7 := Lib.hid (And.intro hC hbe)
        clear hC hbe
        go_wp2_with fail
        refine (only_is 1 (intT s.size) _ _ _ (DidC.val H7.out.1)).mono ?_
        rintro e w1 ⟨_, rfl, a, c, rfl, _, hb1⟩
        have hs1 := hb1.size
        have HO := Lib.hid hb1
        clear k0 k1 k2 k3 k4 k5 k6 hb1
        dsimp only [Act.put, tmVal, atomT, varT, intT, Tm.kind_mk, Tm.n_mk, Tm.s_mk, Tm.args_mk, List.length_nil]
        go_wp2_with fail
        refine (lawa_any _ _).mono ?_
        rintro e w2 ⟨rfl, hb2⟩
        dsimp only [Act.put, tmVal, atomT, varT, intT, Tm.kind_mk, Tm.n_mk, Tm.s_mk, Tm.args_mk, List.length_nil]
        go_wp2_with fail
        refine (lawa_any _ _).mono ?_
        rintro e w3 ⟨rfl, hb3⟩
        dsimp only [Act.put, tmVal, atomT, varT, intT, Tm.kind_mk, Tm.n_mk, Tm.s_mk, Tm.args_mk, List.length_nil]
        go_wp2_with fail
        refine (lawv_any _ _).mono ?_
        rintro e w4 ⟨rfl, hb4⟩
        dsimp only [Act.put, tmVal, atomT, varT, intT, Tm.kind_mk, Tm.n_mk, Tm.s_mk, Tm.args_mk, List.length_nil]
        go_wp2_with fail
        have hh := do_join s t none none none 0 0 0 w4.heap.size _ (by omega) (heap_alloc_new w4 (.cells #[.int .i64 3, .int .i64 0, .string s, .slice none 0 0, .int .i64 3, .int .i64 0, .string t, .slice none 0 0, .int .i64 1, .int .i64 0, .string ⟨#[]⟩, .slice none 0 0] 28))
        (with_reducible refine Calls.mono hh ?_)
        clear hh
        rintro e w5 ⟨_, rfl, _, rfl, ⟨p1, q1, p2, q2, p3, q3, rfl, h1, h2, h3⟩, hb5⟩
        have s2 := hb2.size
        have s3 := hb3.size
        have s4 := hb4.size
        have s5 := hb5.size
        rw [World.size_alloc] at s2 s5
        have hb15 : Below w1.heap.size w1 w5 := ((Below.refl _ w1).alloc (Nat.le_refl _) _).trans ((hb2.mono (by rw [World.size_alloc]; omega)).trans ((hb3.mono (by omega)).trans ((hb4.mono (by omega)).trans (((Below.refl _ w4).alloc (by omega) _).trans (hb5.mono (by rw [World.size_alloc]; omega))))))
        have g1 : w5.cell? ⟨w1.heap.size, 1, none⟩ = some (.int .i64 s.size) := by
          have e0 : w2.cell? ⟨w1.heap.size, 1, none⟩ = some (.int .i64 s.size) := (hb2.cell (by rw [World.size_alloc]; show w1.heap.size < _; omega)).trans (cell_of_block (heap_alloc_new _ _) 1 (by simp))
          exact keep_below hb5 (keep_alloc (keep_below hb4 (keep_below hb3 e0)))
        have hC5 := H7.out.1.keep (bchain HO.out hb15)
        obtain ⟨cs, TT, hblk, hcs⟩ := hC5.blk
        have y0 := hC5.k0
        have y1 := hC5.k1
        have y2 := hC5.k2
        have y3 := hC5.k3
        have y4 := hC5.k4
        have y5 := hC5.k5
        have y6 := hC5.k6
        have z0 := frozen_of_block hblk 0
        have z1 := frozen_of_block hblk 1
        have z2 := frozen_of_block hblk 2
        have z3 := frozen_of_block hblk 3
        have z4 := frozen_of_block hblk 4
        have z5 := frozen_of_block hblk 5
        have z6 := frozen_of_block hblk 6
        have hp15 : P15 < w5.heap.size := by omega
        have hp17 : ¬ P15 = w1.heap.size := by omega
        have hCp := DidC.put' (d := didIs 2 (atomT (s ++ t))) (N := w4.heap.size) hblk hcs (And.intro h1 (And.intro h2 h3)) (by rw [World.size_alloc]; omega) (by rw [World.size_alloc]; omega)
        have HP := Lib.hid (And.intro hCp (And.intro hb15 hblk))
        have hw15 : w1.heap.size + 1 ≤ w5.heap.size := by omega
        clear hCp hb15 hblk hcs h1 h2 h3 hb2 hb3 hb4 hb5 hC5 s2 s3 s4 s5
        dsimp only [Act.put, didVal, didIs, noT, atomT, Tm.kind_mk, Tm.n_mk, Tm.s_mk, Tm.args_mk, List.length_nil, List.length_cons]
        go_wp2_with fail
        refine (only_is 2 (atomT (s ++ t)) _ _ _ (DidC.val HP.out.1)).mono ?_
        rintro e w6 ⟨_, rfl, a6, c6, rfl, _, hb6⟩
        have s6 := hb6.size
        simp only [World.size_setCell] at s6
        have g1' : w6.cell? ⟨w1.heap.size, 1, none⟩ = some (.int .i64 s.size) := keep_below hb6 ((put7_fr w5 P15 _ _ _ _ _ _ _).cell g1 (fun e => hp17 e.symm))
        have HB6 := Lib.hid hb6
        have hl17 : w1.heap.size < w6.heap.size := by omega
        clear hb6 y0 y1 y2 y3 y4 y5 y6 z0 z1 z2 z3 z4 z5 z6 g1
        dsimp only [Act.put, tmVal, atomT, varT, intT, Tm.kind_mk, Tm.n_mk, Tm.s_mk, Tm.args_mk, List.length_nil]
        go_wp2_with fail
        go_ret
        refine ⟨rfl, ?_⟩
        have h0 : Below w.heap.size w w5 := bchain (bchain (bchain HB0.out H7.out.2) HO.out) HP.out.2.1
        have h1 : Below w.heap.size w w6 := h0.trans (((put7_fr w5 P15 _ _ _ _ _ _ _).below (by omega) fun k hk => by omega).trans (HB6.out.mono (by simp only [World.size_setCell]; omega)))
        exact h1.alloc (by omega) _
end Go.Proofs.YtkjkckdjenjgdaaDoor
