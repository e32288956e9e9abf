/- The walk over term.rename, for whatever numbering. -/
import Derived.Test.YtkjkckdjenjgdaaDoorRen
import Derived.Deep.QuietTactic
import Derived.BigQuiet
import Derived.WalkLawsBesides
import Derived.WalkSpells
import Derived.Deep.RegionLaw
import Derived.Deep.AppendLies
namespace Go.Proofs.YtkjkckdjenjgdaaDoor
open Go Go.RowKit

theorem infoPtr : (Tryd.prog.info? 106).map (fun i => (i.zero, i.size, i.bytes)) = some (some (.pointer none), 1, 8) := by kernel_rfl
theorem infoTerm : (Tryd.prog.info? 28).map (fun i => (i.zero, i.size, i.bytes)) = some (some (.agg #[.int .i64 0, .int .i64 0, .string ⟨#[]⟩, .slice none 0 0]), 4, 56) := by kernel_rfl

set_option maxHeartbeats 4000000 in
set_option maxRecDepth 100000 in
theorem rename_any {σ : Type} (V : Numb σ) (I M : Nat → Prop) (f : FuncId) (first : Array Value) (st : σ) (t : Tm) (a : Option Addr) (c : Nat) (w : World)
    (hcall : ∀ (args : Array Value) (w : World), (callFunc f args).run Tryd.prog w = .ok (.enter f args) w)
    (hv : V.ok f first) (hI : ∀ b, I b → b < w.heap.size) (hIM : ∀ b, I b → ¬ M b) (hi : V.inv t.size st M w) (ht : SlC w I t.args a c) (hl : t.size ≤ 1000000000) :
    Calls Tryd.prog 74 #[tmVal t a c, .func (.func f) first #[]] w fun e w' => ∃ v, e = .returned v ∧ TmV w' (fun b => w.heap.size ≤ b) (ren V.num t st).1 v ∧ ∃ M', V.inv 0 (ren V.num t st).2 M' w' ∧ (∀ b, M' b → M b ∨ w.heap.size ≤ b) ∧ Fr M w w' := by
  have HC := Lib.hid hcall
  clear hcall
  have hlt : ∀ k st M w, V.inv k st M w → ∀ b, M b → b < w.heap.size := V.lt
  simp only [tmVal]
  go_enter Tryd.func74, Tryd.ntmps74
  go_wp2_with fail
  go_loopg [5] t.size (fun k v wr => ∃ L st' M' T, RenRel V I M w (ren V.num t st).1 (ren V.num t st).2 t.size k v wr L st' M' T)
  case atStart =>
    have hfr : ∀ M, Fr M w (((w.alloc (Obj.cells #[Value.int IntKind.i64 t.kind, Value.int IntKind.i64 t.n, Value.string t.s, Value.slice a t.args.length c] 28)).alloc
      (Obj.cells #[Value.int IntKind.i64 0, Value.int IntKind.i64 0, Value.string ⟨#[]⟩, Value.slice none 0 0] 28)).alloc (Obj.cells #[.pointer (some ⟨w.heap.size, 0, none⟩)] 106)) := fun M => ((Fr.alloc M w _).trans (Fr.alloc M _ _)).trans (Fr.alloc M _ _)
    have hlt0 := V.lt _ _ _ _ hi
    have hole := Hole.start (w := (((w.alloc (Obj.cells #[Value.int IntKind.i64 t.kind, Value.int IntKind.i64 t.n, Value.string t.s, Value.slice a t.args.length c] 28)).alloc
      (Obj.cells #[Value.int IntKind.i64 0, Value.int IntKind.i64 0, Value.string ⟨#[]⟩, Value.slice none 0 0] 28)).alloc (Obj.cells #[.pointer (some ⟨w.heap.size, 0, none⟩)] 106))) (T := (· = w.heap.size)) (PtI.mk w.heap.size 0 t a c) (ren V.num t st).1 rfl
    refine ⟨[PtI.mk w.heap.size 0 t a c], st, M, (· = w.heap.size), ?_, ?_, List.pairwise_singleton _ _, ?_, ?_, V.stab _ _ _ _ _ hi fun b hb => (hfr (fun _ => False)).block b (hlt0 b hb) id, ?_, Nat.le_refl _, ?_, fun b hb => .inl hb, hfr M, ?_, ?_, ?_⟩
    · have := World.ownsRow_lit (w := (w.alloc (Obj.cells #[Value.int IntKind.i64 t.kind, Value.int IntKind.i64 t.n, Value.string t.s, Value.slice a t.args.length c] 28)).alloc
        (Obj.cells #[Value.int IntKind.i64 0, Value.int IntKind.i64 0, Value.string ⟨#[]⟩, Value.slice none 0 0] 28)) (base := w.heap.size) (e := 106) (size := 1)
        #[.pointer (some ⟨w.heap.size, 0, none⟩)] 1 (by simp; omega) (by decide) rfl
      simpa [Stk, PtI.cells] using this
    · intro x hx
      obtain rfl := List.mem_singleton.1 hx
      refine ⟨⟨?_, ?_, ?_, ?_⟩, ht.fr (hfr M) hIM, rfl⟩ <;> go_simp
    · simpa [rens] using hole
    · simp [rens]
    · simp [Tm.sizes]
    · rintro b rfl
      refine ⟨Nat.le_refl _, by simp; omega, fun hm => by have := hlt0 _ hm; omega, fun hm => by simp [Value.ownBlock] at hm; omega, fun o => frozen_of_block ((heap_alloc_old _ _ (by simp; omega)).trans ((heap_alloc_old _ _ (by simp)).trans (heap_alloc_new _ _))) o⟩
    · intro b hb hm
      have := hlt0 b hm
      simp [Value.ownBlock] at hb
      omega
    · show (World.alloc _ _).heap[_]? = _
      rw [heap_alloc_old _ _ (by simp)]
      have := heap_alloc_new (w.alloc (Obj.cells #[Value.int IntKind.i64 t.kind, Value.int IntKind.i64 t.n, Value.string t.s, Value.slice a t.args.length c] 28)) (Obj.cells #[Value.int IntKind.i64 0, Value.int IntKind.i64 0, Value.string ⟨#[]⟩, Value.slice none 0 0] 28)
      rwa [World.size_alloc] at this
    · exact ⟨fun hm => by have := hlt0 _ hm; omega, by simp, by simp [Value.ownBlock]⟩
  case round =>
    obtain ⟨L, st', M', T, R⟩ := hrel
    rcases Nat.eq_zero_or_pos L.length with h0 | h0
    · obtain rfl := List.eq_nil_of_length_eq_zero h0
      obtain ⟨a', cap, rfl⟩ := R.stk.slice
      clear h0
      have hT := R.hole.done
      obtain ⟨_, c0, c1, c2, a1, cp1, c3, hs⟩ := TmC.iff.1 hT
      have hres := R.res
      have r0 := cell_of_block hres 0 (by decide)
      have r1 := cell_of_block hres 1 (by decide)
      have r2 := cell_of_block hres 2 (by decide)
      have r3 := cell_of_block hres 3 (by decide)
      have z0 := frozen_of_block hres 0
      have z1 := frozen_of_block hres 1
      have z2 := frozen_of_block hres 2
      have z3 := frozen_of_block hres 3
      have hsz := (Array.getElem?_eq_some_iff.1 hres).1
      have HR := Lib.hid (And.intro R hs)
      clear R hT hres hs
      obtain ⟨R', hR'⟩ : ∃ R', R' = (ren V.num t st).1 := ⟨_, rfl⟩
      rw [← hR'] at c0 c1 c2 c3
      have HRR := Lib.hid hR'
      clear hR'
      simp only [Nat.zero_add] at c1 c2 c3
      go_wp2_with fail
      refine bodyPost_ret (v := tmVal R' a1 cp1) (by simp only [results, Tryd.results74, tmVal]; go_simp) rfl ?_
      obtain ⟨R, hs⟩ := HR.out
      have hk0 := R.left
      simp only [List.map_nil, Tm.sizes] at hk0
      subst hk0
      have hfin := R.fin
      simp only [List.reverse_nil, List.map_nil, rens] at hfin
      subst hfin
      have hset : Fr (· = w.heap.size + 1) wr ((((wr.setCell ⟨w.heap.size + 1, 0, none⟩ (.int .i64 R'.kind)).setCell ⟨w.heap.size + 1, 1, none⟩ (.int .i64 R'.n)).setCell ⟨w.heap.size + 1, 2, none⟩ (.string R'.s)).setCell ⟨w.heap.size + 1, 3, none⟩ (.slice a1 R'.args.length cp1)) :=
        (((Fr.set1 _ _ _ _).trans (Fr.set1 _ _ _ _)).trans (Fr.set1 _ _ _ _)).trans (Fr.set1 _ _ _ _)
      rw [← HRR.out] at hs ⊢
      refine ⟨_, rfl, ⟨a1, cp1, rfl, ?_⟩, M', V.stab _ _ _ _ _ R.inv fun b hb => hset.block b (V.lt _ _ _ _ R.inv b hb) fun e => R.resOff.1 (e ▸ hb), R.own, R.fr.trans' hset fun i hi => by right; omega⟩
      exact (hs.fr hset fun b hb e => R.resOff.2.1 (e ▸ hb)).mono fun b hb => (R.tree b hb).1
    · obtain ⟨L0, x, rfl⟩ := list_snoc L h0
      clear h0
      obtain ⟨g, cap, rfl, hbg, hgl, hcap, hmax, hcells, hpop⟩ := R.stk.top PtI.length_cells
      have p0 := hcells 0 _ rfl
      obtain ⟨⟨c0, c1, c2, c3⟩, hxs, hxT⟩ := R.lies x (by simp)
      obtain ⟨htl, htw, htM, hto, hfz⟩ := R.tree x.b hxT
      have f0 := hfz x.o
      have f1 := hfz (x.o + 1)
      have f2 := hfz (x.o + 2)
      have f3 := hfz (x.o + 3)
      simp only [Nat.add_zero, Nat.mul_one] at p0
      have HP := Lib.hid hpop
      have HR := Lib.hid R
      have HX := Lib.hid (And.intro hxs (And.intro hxT (And.intro htM (And.intro hto hfz))))
      have HI := Lib.hid (And.intro hI hIM)
      clear hpop R hcells hxs hxT htM hto hfz hI hIM
      obtain ⟨m, hm⟩ : ∃ m, m = L0.length := ⟨_, rfl⟩
      rw [← hm] at p0 hcap ⊢
      have HM := Lib.hid hm
      clear hm
      have hmx : cap ≤ 9223372036854775807 := maxLen_le hmax
      clear hmax
      have hnl : x.t.args.length ≤ 1000000000 := by
        have h1 := HR.out.left
        have h2 := HR.out.small
        have h3 := Tm.length_le_flats 1 x.t.args
        rw [Tm.length_flats] at h3
        rw [List.map_append, sizes_append] at h1
        simp only [List.map_cons, List.map_nil, Tm.sizes, Tm.size_eq] at h1
        omega
      obtain ⟨n, hn⟩ : ∃ n, n = x.t.args.length := ⟨_, rfl⟩
      rw [← hn] at c3 hnl
      have HN := Lib.hid hn
      clear hn
      obtain ⟨i0, hi0, hz0, hz1, hz2⟩ := info_parts infoTerm
      have hmk : ∀ (w : World), (Instr.makeSlice 24 (.int .i64 (n : Int)) (.int .i64 (n : Int))).run Tryd.prog w = .ok (.slice (some ⟨w.heap.size, 0, none⟩) n n) (w.alloc (.cells (madeCells #[.int .i64 0, .int .i64 0, .string ⟨#[]⟩, .slice none 0 0] (n * 4)) 28)) :=
        fun w => run_make_n w 24 28 i0 _ 4 56 Tryd.underlying24 hi0 hz0 hz1 hz2 n (by omega) (by omega)
      obtain ⟨i1, hi1, hy0, hy1, hy2⟩ := info_parts infoPtr
      have hkk : ∃ k', gk = k' + 1 + Tm.sizes x.t.args := by
        have h1 := HR.out.left
        rw [List.map_append, sizes_append] at h1
        simp only [List.map_cons, List.map_nil, Tm.sizes, Tm.size_eq] at h1
        exact ⟨gk - 1 - Tm.sizes x.t.args, by omega⟩
      obtain ⟨k', rfl⟩ := hkk
      have hinv0 : V.inv (k' + Tm.sizes x.t.args + 1) st' M' wr := by have := HR.out.inv; rwa [show k' + 1 + Tm.sizes x.t.args = k' + Tm.sizes x.t.args + 1 from by omega] at this
      have HV := Lib.hid (And.intro hv hinv0)
      clear hinv0 hv
      have hxl : x.lies wr := ⟨c0, c1, c2, by rw [← HN.out]; exact c3⟩
      have HXL := Lib.hid hxl
      clear hxl
      rcases Nat.eq_zero_or_pos n with hn0 | hn0
      · subst hn0
        by_cases hk1 : x.t.kind = 1
        · go_wp2_with fail
          rw [HC.out, Oper.upon_enter]
          refine (HV.out.1 (k' + Tm.sizes x.t.args) st' M' _ x.t.n HV.out.2).mono ?_
          rintro e w1 ⟨rfl, M1, hinv1, hown1, hfr1⟩
          have hmid := RenMid.called HXL.out HX.out.2.2.2.2 hk1 HX.out.2.2.1 hfr1 hinv1 hown1
          have HMID := Lib.hid hmid
          have hxM := HX.out.2.2.1
          have d0 := hfr1.cell c0 hxM
          have d1 := hfr1.cell c1 hxM
          have d2 := hfr1.cell c2 hxM
          have d3 := hfr1.cell c3 hxM
          have hfb : ∀ o, w1.frozen? ⟨x.b, o, none⟩ = false := fun o => (World.frozen?_of_block (w := wr) (a := ⟨x.b, o, none⟩) (hfr1.block x.b htw hxM)).trans (HX.out.2.2.2.2 o)
          have e0 := hfb x.o
          have e1 := hfb (x.o + 1)
          have e2 := hfb (x.o + 2)
          have e3 := hfb (x.o + 3)
          have hw1 : wr.heap.size ≤ w1.heap.size := hfr1.size
          have hxw1 : x.b < w1.heap.size := by omega
          clear c0 c1 c2 c3 f0 f1 f2 f3 hfb hinv1 hown1 hfr1 hmid hxM p0
          obtain ⟨nv, hnv⟩ : ∃ nv, nv = (V.num st' x.t.n).1 := ⟨_, rfl⟩
          rw [← hnv] at HMID
          simp only [← hnv]
          clear hnv
          dsimp only [Act.put]
          go_wp2_with fail
          have hfin := RenMid.done0 HR.out HI.out.1 HI.out.2 HP.out HMID.out HN.out.symm
          rw [← HN.out, ← HM.out, List.reverse_nil, List.append_nil] at hfin
          go_roundg (k' + Tm.sizes x.t.args)
          case measure => omega
          case rel => obtain ⟨T', hT'⟩ := hfin; exact ⟨_, _, _, T', hT'⟩
        · have hmid := RenMid.plain HXL.out HX.out.2.2.2.2 hk1 HV.out.2 HX.out.2.2.1
          have HMID := Lib.hid hmid
          clear hmid
          go_wp2_with fail
          have hfin := RenMid.done0 HR.out HI.out.1 HI.out.2 HP.out HMID.out HN.out.symm
          rw [← HN.out, ← HM.out, List.reverse_nil, List.append_nil] at hfin
          go_roundg (k' + Tm.sizes x.t.args)
          case measure => omega
          case rel => obtain ⟨T', hT'⟩ := hfin; exact ⟨_, _, _, T', hT'⟩
      · obtain ⟨K, hK, hKd, hKc⟩ := HX.out.1.items 0
        obtain ⟨bb, oo, ha, hc⟩ := hKc (by rw [← HN.out]; exact hn0)
        rw [ha] at c3
        have hKl : K.length = n := by rw [HN.out, ← hK, List.length_map]
        obtain ⟨cs, hcs⟩ : ∃ cs : List Value, cs = K.flatMap (fun y => [.int .i64 y.t.kind, .int .i64 y.t.n, .string y.t.s, .slice y.a y.t.args.length y.c]) := ⟨_, rfl⟩
        have hcl : cs.length = n * 4 := by rw [hcs, flatMap_length (size := 4) (fun _ => rfl), hKl]
        have hc1 : ∀ v ∈ cs, v.oneCell' = true := by rw [hcs]; intro v hv; simp only [List.mem_flatMap] at hv; obtain ⟨y, _, hv⟩ := hv; simp at hv; rcases hv with rfl | rfl | rfl | rfl <;> rfl
        have hsrc : ∀ j v, cs[j]? = some v → I bb ∧ wr.cell? ((⟨bb, oo, none⟩ : Addr).add j) = some v := by
          intro j u hu
          rw [hcs] at hu
          obtain ⟨y, hy, hyu⟩ := flatMap_at (cel := fun y : AbI => [Value.int .i64 y.t.kind, .int .i64 y.t.n, .string y.t.s, .slice y.a y.t.args.length y.c]) (size := 4) (fun _ => rfl) (by omega) K j u hu
          obtain ⟨hib, k0, k1, k2, k3⟩ := hc _ y hy
          have hm : j % 4 < 4 := Nat.mod_lt _ (by omega)
          have ej : j = j / 4 * 4 + j % 4 := by omega
          rw [Addr.add_lit]
          refine ⟨hib, ?_⟩
          rw [show oo + j = oo + j / 4 * 4 + j % 4 from by omega]
          generalize j % 4 = r at *
          match r, hm, hyu with
          | 0, _, h => simp only [List.getElem?_cons_zero, Option.some.injEq] at h; subst h; exact k0
          | 1, _, h => simp only [List.getElem?_cons_succ, List.getElem?_cons_zero, Option.some.injEq] at h; subst h; exact k1
          | 2, _, h => simp only [List.getElem?_cons_succ, List.getElem?_cons_zero, Option.some.injEq] at h; subst h; exact k2
          | 3, _, h => simp only [List.getElem?_cons_succ, List.getElem?_cons_zero, Option.some.injEq] at h; subst h; exact k3
        have HK := Lib.hid (And.intro hK (And.intro hKd (And.intro hKc (And.intro hcs (And.intro hcl (And.intro hc1 (And.intro hsrc ha)))))))
        clear hK hKd hKc hc hcs hcl hc1 hsrc ha
        by_cases hk1 : x.t.kind = 1
        · go_wp2_with fail
          rw [HC.out, Oper.upon_enter]
          refine (HV.out.1 (k' + Tm.sizes x.t.args) st' M' _ x.t.n HV.out.2).mono ?_
          rintro e w1 ⟨rfl, M1, hinv1, hown1, hfr1⟩
          have hsrc1 : ∀ j v, cs[j]? = some v → (w1.setCell ⟨x.b, x.o + 1, none⟩ (.int .i64 (V.num st' x.t.n).1)).cell? ((⟨bb, oo, none⟩ : Addr).add j) = some v := by
            intro j v h
            obtain ⟨h1, h2⟩ := HK.out.2.2.2.2.2.2.1 j v h
            have h3 := HI.out.1 bb h1
            rw [Addr.add_lit] at h2 ⊢
            rw [World.cell?_setCell_other _ _ _ _ (fun e => by have := congrArg Addr.block e; simp at this; omega)]
            exact hfr1.cell h2 fun hm => by
              rcases HR.out.own bb hm with h | h
              · exact HI.out.2 bb h1 h
              · omega
          have HSRC := Lib.hid hsrc1
          clear hsrc1
          have hmid := RenMid.called HXL.out HX.out.2.2.2.2 hk1 HX.out.2.2.1 hfr1 hinv1 hown1
          have HMID := Lib.hid hmid
          have hxM := HX.out.2.2.1
          have d0 := hfr1.cell c0 hxM
          have d1 := hfr1.cell c1 hxM
          have d2 := hfr1.cell c2 hxM
          have d3 := hfr1.cell c3 hxM
          have hfb : ∀ o, w1.frozen? ⟨x.b, o, none⟩ = false := fun o => (World.frozen?_of_block (w := wr) (a := ⟨x.b, o, none⟩) (hfr1.block x.b htw hxM)).trans (HX.out.2.2.2.2 o)
          have e0 := hfb x.o
          have e1 := hfb (x.o + 1)
          have e2 := hfb (x.o + 2)
          have e3 := hfb (x.o + 3)
          have hw1 : wr.heap.size ≤ w1.heap.size := hfr1.size
          have hxw1 : x.b < w1.heap.size := by omega
          clear c0 c1 c2 c3 f0 f1 f2 f3 hfb hinv1 hown1 hfr1 hmid hxM p0
          obtain ⟨nv, hnv⟩ : ∃ nv, nv = (V.num st' x.t.n).1 := ⟨_, rfl⟩
          rw [← hnv] at HMID HSRC
          simp only [← hnv]
          clear hnv
          dsimp only [Act.put]
          go_wp2_with ((with_reducible show wpList _ _ _ (Oper.mk (some 58) _ _ _ _ _ :: _) _ _); refine wpList_copy_new rfl (.tmp 53) (.tmp 57) 24 24 rfl 28 i0 4 Tryd.underlying24 hi0 hz1 _ (by simp only [World.size_setCell]) n n ⟨bb, oo, none⟩ _ rfl rfl _ _ cs HK.out.2.2.2.2.1 (size_madeCells _ _) (by exact HSRC.out) HK.out.2.2.2.2.2.1 ?_)
          obtain ⟨wm, hwm⟩ : ∃ wm, wm = w1.setCell ⟨x.b, x.o + 1, none⟩ (.int .i64 nv) := ⟨_, rfl⟩
          have hwms : w1.heap.size = wm.heap.size := by rw [hwm]; simp
          rw [← hwm] at HMID ⊢
          rw [hwms]
          clear hwm
          obtain ⟨wo, rfl⟩ : ∃ wo : World, wo = wr := ⟨_, rfl⟩
          have hkl : n = (K.zipIdx.map fun y => PtI.mk wm.heap.size (y.2 * 4) y.1.t y.1.a y.1.c).length := by rw [List.length_map, List.length_zipIdx, hKl]
          have hstart := RenMid.startN (a' := some ⟨wm.heap.size, 0, none⟩) (cs := cs) HR.out HP.out HMID.out hkl HN.out.symm
          rw [← HM.out] at hstart
          have HST := Lib.hid hstart
          clear hstart
          obtain ⟨KK, hKK⟩ : ∃ KK, KK = (K.zipIdx.map fun y => PtI.mk wm.heap.size (y.2 * 4) y.1.t y.1.a y.1.c) := ⟨_, rfl⟩
          rw [← hKK] at HST hkl
          obtain ⟨W2, hW2⟩ : ∃ W2, W2 = ((wm.setCell ⟨x.b, x.o + 3, none⟩ (.slice (some ⟨wm.heap.size, 0, none⟩) n n)).alloc (.cells cs.toArray 28)) := ⟨_, rfl⟩
          have hW2s : W2.heap.size = wm.heap.size + 1 := by rw [hW2]; simp
          rw [← hW2] at HST ⊢
          have hws : wm.heap.size < W2.heap.size := by omega
          have hwsz : w.heap.size ≤ W2.heap.size := by have := HR.out.fr.size; have := HMID.out.fr.size; omega
          have HKK := Lib.hid (And.intro hKK (And.intro hW2 hkl))
          clear hKK hW2 hkl hW2s
          go_loopg [5, 8] n (fun k v i w2 => i = .int .i64 ((k : Int) - 1) ∧ PushIn w.heap.size 106 1 PtI.cells W2 g L0 KK k v w2)
          case atStart => exact ⟨rfl, HST.out⟩
          case round =>
            obtain ⟨rfl, Q⟩ := hrel
            rcases Nat.eq_zero_or_pos gk with h0 | h0
            · subst h0
              have HQ := Lib.hid Q
              clear Q
              simp only [Int.natCast_zero, Int.zero_sub]
              go_wp2_with fail
              go_roundg (k' + Tm.sizes x.t.args)
              case measure => omega
              case rel =>
                obtain ⟨hKK, hW2, _⟩ := HKK.out
                have Q := HQ.out
                rw [hKK, hW2] at Q
                obtain ⟨h1, h2, _, h4, _⟩ := HK.out
                have hnn := HN.out
                rw [hnn] at Q
                obtain ⟨T', hT'⟩ := RenMid.doneN HR.out HI.out.1 HI.out.2 HP.out HMID.out h1 (fun y hy => (h2 y hy).2) h4 Q
                exact ⟨_, _, _, T', hT'⟩
            · obtain ⟨j, rfl⟩ : ∃ j, gk = j + 1 := ⟨gk - 1, by omega⟩
              clear h0
              have hjl := Q.le
              have hst := Q.stk
              obtain ⟨u4a, u4c, rfl⟩ := hst.slice
              have hkl := HKK.out.2.2
              have hl0 : L0.length ≤ 1000000000 := by
                have h1 := HR.out.left
                have h2 := HR.out.small
                rw [List.map_append, sizes_append] at h1
                have h3 := Tm.length_le_flats 1 (L0.map (·.t))
                rw [Tm.length_flats, List.length_map] at h3
                omega
              obtain ⟨nn, hnn⟩ : ∃ nn, (L0 ++ (KK.drop (j + 1)).reverse).length = nn := ⟨_, rfl⟩
              have hnb : nn ≤ 2000000001 := by rw [← hnn]; simp only [List.length_append, List.length_reverse, List.length_drop]; omega
              have HOW : Hid (wr.ownsRow w.heap.size 106 1 (.slice u4a (L0 ++ (KK.drop (j + 1)).reverse).length u4c) (L0 ++ (KK.drop (j + 1)).reverse).length ((L0 ++ (KK.drop (j + 1)).reverse).flatMap PtI.cells)) := hst
              clear hst
              rw [hnn] at HOW ⊢
              have hsz2 := Q.fr.size
              have HQ := Lib.hid (And.intro Q hnn)
              clear Q hnn hkl
              have HM1 : Hid (nn + 1 ≤ maxLen) := by show nn + 1 ≤ maxLen; simp only [maxLen]; omega
              have hjn : j < n := by have := HKK.out.2.2; omega
              simp only [Int.natCast_succ, Int.add_sub_cancel]
              go_wp2_with (at_builtin; refine wpList_append_lies _ rfl (.tmp 70) (.tmp 74) 107 rfl w.heap.size 106 i1 _ 1 8 Tryd.underlying107 hi1 hy0 hy1 hy2 rfl (by decide) (.slice u4a nn u4c) nn _ rfl (by exact World.ownsRow.alloc HOW.out _) ⟨wr.heap.size, 0, none⟩ 1 1 [.pointer (some ⟨wm.heap.size, j * 4, none⟩)] rfl rfl (by exact World.news_of_block (heap_alloc_new _ _)) (by simp [Value.oneCell']) (by decide) HM1.out (by omega) (by simp; omega) _ rfl ?_)
              intro g2 cap2 w2 hown2 hgrow2 hat2 hlt2
              have HG := Lib.hid (And.intro hown2 (And.intro hgrow2 (And.intro hat2 hlt2)))
              clear hown2 hgrow2 hat2 hlt2
              go_wp2_with fail
              go_roundg j
              case measure => omega
              case rel =>
                refine ⟨rfl, ?_⟩
                obtain ⟨hown2, hgrow2, hat2, _⟩ := HG.out
                obtain ⟨Q, hnn⟩ := HQ.out
                rw [hnn] at Q
                have hKK := HKK.out.1
                have hjK : j < K.length := by omega
                refine PushIn.step (y := PtI.mk wm.heap.size (j * 4) K[j].t K[j].a K[j].c) Q ?_ (Fr.alloc _ wr _) hnn (by rw [List.flatMap_append, List.append_assoc]; exact hown2) hgrow2 (by rw [World.size_alloc]; exact hat2)
                rw [hKK, List.getElem?_map, List.getElem?_zipIdx, List.getElem?_eq_getElem hjK]
                simp
        · have hmid := RenMid.plain HXL.out HX.out.2.2.2.2 hk1 HV.out.2 HX.out.2.2.1
          have HMID := Lib.hid hmid
          clear hmid
          go_wp2_with ((with_reducible show wpList _ _ _ (Oper.mk (some 58) _ _ _ _ _ :: _) _ _); refine wpList_copy_new rfl (.tmp 53) (.tmp 57) 24 24 rfl 28 i0 4 Tryd.underlying24 hi0 hz1 _ (by simp only [World.size_setCell]) n n ⟨bb, oo, none⟩ _ rfl rfl _ _ cs HK.out.2.2.2.2.1 (size_madeCells _ _) (fun j v h => (HK.out.2.2.2.2.2.2.1 j v h).2) HK.out.2.2.2.2.2.1 ?_)
          obtain ⟨wo, rfl⟩ : ∃ wo : World, wo = wr := ⟨_, rfl⟩
          have hkl : n = (K.zipIdx.map fun y => PtI.mk wo.heap.size (y.2 * 4) y.1.t y.1.a y.1.c).length := by rw [List.length_map, List.length_zipIdx, hKl]
          have hstart := RenMid.startN (a' := some ⟨wo.heap.size, 0, none⟩) (cs := cs) HR.out HP.out HMID.out hkl HN.out.symm
          rw [← HM.out] at hstart
          have HST := Lib.hid hstart
          clear hstart
          obtain ⟨KK, hKK⟩ : ∃ KK, KK = (K.zipIdx.map fun y => PtI.mk wo.heap.size (y.2 * 4) y.1.t y.1.a y.1.c) := ⟨_, rfl⟩
          rw [← hKK] at HST hkl
          obtain ⟨W2, hW2⟩ : ∃ W2, W2 = ((wo.setCell ⟨x.b, x.o + 3, none⟩ (.slice (some ⟨wo.heap.size, 0, none⟩) n n)).alloc (.cells cs.toArray 28)) := ⟨_, rfl⟩
          have hW2s : W2.heap.size = wo.heap.size + 1 := by rw [hW2]; simp
          rw [← hW2] at HST ⊢
          have hws : wo.heap.size < W2.heap.size := by omega
          have hwsz : w.heap.size ≤ W2.heap.size := by have := HR.out.fr.size; have := HMID.out.fr.size; omega
          have HKK := Lib.hid (And.intro hKK (And.intro hW2 hkl))
          clear hKK hW2 hkl hW2s
          go_loopg [5, 8] n (fun k v i w2 => i = .int .i64 ((k : Int) - 1) ∧ PushIn w.heap.size 106 1 PtI.cells W2 g L0 KK k v w2)
          case atStart => exact ⟨rfl, HST.out⟩
          case round =>
            obtain ⟨rfl, Q⟩ := hrel
            rcases Nat.eq_zero_or_pos gk with h0 | h0
            · subst h0
              have HQ := Lib.hid Q
              clear Q
              simp only [Int.natCast_zero, Int.zero_sub]
              go_wp2_with fail
              go_roundg (k' + Tm.sizes x.t.args)
              case measure => omega
              case rel =>
                obtain ⟨hKK, hW2, _⟩ := HKK.out
                have Q := HQ.out
                rw [hKK, hW2] at Q
                obtain ⟨h1, h2, _, h4, _⟩ := HK.out
                have hnn := HN.out
                rw [hnn] at Q
                obtain ⟨T', hT'⟩ := RenMid.doneN HR.out HI.out.1 HI.out.2 HP.out HMID.out h1 (fun y hy => (h2 y hy).2) h4 Q
                exact ⟨_, _, _, T', hT'⟩
            · obtain ⟨j, rfl⟩ : ∃ j, gk = j + 1 := ⟨gk - 1, by omega⟩
              clear h0
              have hjl := Q.le
              have hst := Q.stk
              obtain ⟨u4a, u4c, rfl⟩ := hst.slice
              have hkl := HKK.out.2.2
              have hl0 : L0.length ≤ 1000000000 := by
                have h1 := HR.out.left
                have h2 := HR.out.small
                rw [List.map_append, sizes_append] at h1
                have h3 := Tm.length_le_flats 1 (L0.map (·.t))
                rw [Tm.length_flats, List.length_map] at h3
                omega
              obtain ⟨nn, hnn⟩ : ∃ nn, (L0 ++ (KK.drop (j + 1)).reverse).length = nn := ⟨_, rfl⟩
              have hnb : nn ≤ 2000000001 := by rw [← hnn]; simp only [List.length_append, List.length_reverse, List.length_drop]; omega
              have HOW : Hid (wr.ownsRow w.heap.size 106 1 (.slice u4a (L0 ++ (KK.drop (j + 1)).reverse).length u4c) (L0 ++ (KK.drop (j + 1)).reverse).length ((L0 ++ (KK.drop (j + 1)).reverse).flatMap PtI.cells)) := hst
              clear hst
              rw [hnn] at HOW ⊢
              have hsz2 := Q.fr.size
              have HQ := Lib.hid (And.intro Q hnn)
              clear Q hnn hkl
              have HM1 : Hid (nn + 1 ≤ maxLen) := by show nn + 1 ≤ maxLen; simp only [maxLen]; omega
              have hjn : j < n := by have := HKK.out.2.2; omega
              simp only [Int.natCast_succ, Int.add_sub_cancel]
              go_wp2_with (at_builtin; refine wpList_append_lies _ rfl (.tmp 70) (.tmp 74) 107 rfl w.heap.size 106 i1 _ 1 8 Tryd.underlying107 hi1 hy0 hy1 hy2 rfl (by decide) (.slice u4a nn u4c) nn _ rfl (by exact World.ownsRow.alloc HOW.out _) ⟨wr.heap.size, 0, none⟩ 1 1 [.pointer (some ⟨wo.heap.size, j * 4, none⟩)] rfl rfl (by exact World.news_of_block (heap_alloc_new _ _)) (by simp [Value.oneCell']) (by decide) HM1.out (by omega) (by simp; omega) _ rfl ?_)
              intro g2 cap2 w2 hown2 hgrow2 hat2 hlt2
              have HG := Lib.hid (And.intro hown2 (And.intro hgrow2 (And.intro hat2 hlt2)))
              clear hown2 hgrow2 hat2 hlt2
              go_wp2_with fail
              go_roundg j
              case measure => omega
              case rel =>
                refine ⟨rfl, ?_⟩
                obtain ⟨hown2, hgrow2, hat2, _⟩ := HG.out
                obtain ⟨Q, hnn⟩ := HQ.out
                rw [hnn] at Q
                have hKK := HKK.out.1
                have hjK : j < K.length := by omega
                refine PushIn.step (y := PtI.mk wo.heap.size (j * 4) K[j].t K[j].a K[j].c) Q ?_ (Fr.alloc _ wr _) hnn (by rw [List.flatMap_append, List.append_assoc]; exact hown2) hgrow2 (by rw [World.size_alloc]; exact hat2)
                rw [hKK, List.getElem?_map, List.getElem?_zipIdx, List.getElem?_eq_getElem hjK]
                simp
end Go.Proofs.YtkjkckdjenjgdaaDoor
