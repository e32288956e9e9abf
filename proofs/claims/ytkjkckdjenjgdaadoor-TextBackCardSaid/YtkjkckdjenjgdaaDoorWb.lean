/- The walk over term.walk, for whatever visitor. -/
import Derived.Test.YtkjkckdjenjgdaaDoorProg
import Derived.Test.YtkjkckdjenjgdaaDoorLib
import Derived.Deep.QuietTactic
import Derived.BigQuiet
import Derived.WalkLawsBesides
import Derived.WalkSpells
import Derived.StillTailTactics
import Derived.Deep.RegionLaw
import Derived.Deep.AppendLies
namespace Go.Proofs.YtkjkckdjenjgdaaDoor
open Go Go.RowKit

/-- A visitor: what it keeps in which blocks, with so much left to do. -/
structure Visitor (σ : Type) where
  step : σ → Tm → Int → σ
  inv : Nat → σ → (Nat → Prop) → World → Prop
  lt : ∀ k st M w, inv k st M w → ∀ b, M b → b < w.heap.size
  stab : ∀ k st M w w', inv k st M w → (∀ b, M b → w'.heap[b]? = w.heap[b]?) → inv k st M w'
def Visitor.ok {σ : Type} (V : Visitor σ) (f : FuncId) (p : Value) (lim : Int) : Prop :=
  ∀ k st M w t a c d I, (∀ b, I b → ¬ M b) → V.inv (k + 1) st M w → SlC w I t.args a c → 1 ≤ d → d ≤ lim →
    Calls Tryd.prog f #[p, tmVal t a c, .int .i64 d] w fun e w' => e = .returned (.tuple #[]) ∧ ∃ M', V.inv k (V.step st t d) M' w' ∧ (∀ b, M' b → M b ∨ w.heap.size ≤ b) ∧ Fr M w w'
def Visitor.fold {σ : Type} (V : Visitor σ) (st : σ) (l : List (Tm × Int)) : σ := l.foldl (fun st y => V.step st y.1 y.2) st

/-- The outer loop's relation. -/
structure WalkRel {σ : Type} (V : Visitor σ) (I : Nat → Prop) (M : Nat → Prop) (w0 : World) (fin : σ) (lim : Int) (k : Nat) (v : Value) (wr : World) (L : List AbI) (st : σ) (M' : Nat → Prop) : Prop where
  stk : Stk wr w0.heap.size 94 5 AbI.cells v L
  items : ∀ x ∈ L, SlC wr I x.t.args x.a x.c
  inv : V.inv k st M' wr
  left : (AbI.rest L).length = k
  small : (k : Int) ≤ lim
  fold : V.fold st (AbI.rest L) = fin
  own : ∀ b, M' b → M b ∨ w0.heap.size ≤ b
  fr : Fr M w0 wr
  apart : ∀ b, v.ownBlock = some b → ¬ M' b
  deep : ∀ y ∈ AbI.rest L, 1 ≤ y.2 ∧ y.2 ≤ lim

/-- The inner loop's relation: the Args from m on lie on the stack. -/
structure WalkIn (w0 w1 : World) (g : Nat) (L0 K : List AbI) (m : Nat) (v : Value) (w2 : World) : Prop where
  le : m ≤ K.length
  stk : Stk w2 w0.heap.size 94 5 AbI.cells v (L0 ++ (K.drop m).reverse)
  fr : Fr (· = g) w1 w2
  row : ∀ b, v.ownBlock = some b → b = g ∨ w1.heap.size ≤ b

theorem infoAbove : (Tryd.prog.info? 94).map (fun i => (i.zero, i.size, i.bytes)) = some (some (.agg #[.int .i64 0, .int .i64 0, .string ⟨#[]⟩, .slice none 0 0, .int .i64 0]), 5, 64) := by kernel_rfl

set_option maxHeartbeats 2000000 in
set_option maxRecDepth 100000 in
theorem walk_any {σ : Type} (V : Visitor σ) (I M : Nat → Prop) (f : FuncId) (p : Value) (st : σ) (t : Tm) (a : Option Addr) (c : Nat) (w : World) (lim : Int)
    (hcall : ∀ (args : Array Value) (w : World), (callFunc f args).run Tryd.prog w = .ok (.enter f args) w)
    (hv : V.ok f p lim) (hI : ∀ b, I b → b < w.heap.size) (hIM : ∀ b, I b → ¬ M b) (hi : V.inv t.size st M w) (ht : SlC w I t.args a c) (hl : t.size ≤ lim) (hl2 : lim ≤ 1000000000000) :
    Calls Tryd.prog 58 #[tmVal t a c, .func (.func f) #[p] #[]] w fun e w' => e = .returned (.tuple #[]) ∧ ∃ M', V.inv 0 (V.fold st (t.flat 1)) M' w' ∧ (∀ b, M' b → M b ∨ w.heap.size ≤ b) ∧ Fr M w w' := by
  have HC := Lib.hid hcall
  clear hcall
  simp only [tmVal]
  go_enter Tryd.func58, Tryd.ntmps58
  go_wp2_with fail
  go_loopg [4] t.size (fun k v wr => ∃ L st' M', WalkRel V I M w (V.fold st (t.flat 1)) lim k v wr L st' M')
  case atStart =>
    refine ⟨[⟨t, a, c, 1⟩], st, M, ?_⟩
    have hfr : Fr M w ((w.alloc (Obj.cells #[Value.int IntKind.i64 t.kind, Value.int IntKind.i64 t.n, Value.string t.s, Value.slice a t.args.length c] 28)).alloc
      (Obj.cells #[Value.int IntKind.i64 t.kind, Value.int IntKind.i64 t.n, Value.string t.s, Value.slice a t.args.length c, Value.int IntKind.i64 1] 94)) := (Fr.alloc M w _).trans (Fr.alloc M _ _)
    have hrest : AbI.rest [⟨t, a, c, 1⟩] = t.flat 1 := by simp [AbI.rest]
    refine ⟨?_, ?_, ?_, ?_, hl, ?_, ?_, hfr, ?_, ?_⟩
    · have := World.ownsRow_lit (w := w.alloc (Obj.cells #[Value.int IntKind.i64 t.kind, Value.int IntKind.i64 t.n, Value.string t.s, Value.slice a t.args.length c] 28)) (base := w.heap.size) (e := 94) (size := 5)
        #[Value.int IntKind.i64 t.kind, Value.int IntKind.i64 t.n, Value.string t.s, Value.slice a t.args.length c, Value.int IntKind.i64 1] 1 (by simp) (by decide) rfl
      simpa [Stk, AbI.cells] using this
    · intro x hx
      obtain rfl := List.mem_singleton.1 hx
      exact ht.fr hfr hIM
    · exact V.stab _ _ _ _ _ hi fun b hb => (((Fr.alloc (fun _ => False) w _).trans (Fr.alloc _ _ _))).block b (V.lt _ _ _ _ hi b hb) id
    · rw [hrest, Tm.length_flat]
    · rw [hrest]
    · exact fun b hb => .inl hb
    · intro b hb hm
      have := V.lt _ _ _ _ hi b hm
      simp [Value.ownBlock] at hb
      omega
    · rw [hrest]
      intro y hy
      have := Tm.flat_deep t 1 y hy
      omega
  case round =>
    obtain ⟨L, st', M', R⟩ := hrel
    rcases Nat.eq_zero_or_pos L.length with h0 | h0
    · obtain rfl := List.eq_nil_of_length_eq_zero h0
      obtain ⟨a', cap, rfl⟩ := R.stk.slice
      clear h0
      have HR := Lib.hid R
      clear R
      go_wp2_with fail
      go_end0
      obtain ⟨_, _, r3, r4, _, r5, r6, r7, _, _⟩ := HR.out
      simp only [AbI.rest, List.reverse_nil, List.flatMap_nil, List.length_nil] at r4 r5
      exact ⟨rfl, M', by rw [← r5, r4]; exact r3, r6, r7⟩
    · obtain ⟨L0, x, rfl⟩ := list_snoc L h0
      clear h0
      obtain ⟨g, cap, rfl, hbg, hgl, hcap, hmax, hcells, hpop⟩ := R.stk.top AbI.length_cells
      have c0 := hcells 0 _ rfl
      have c1 := hcells 1 _ rfl
      have c2 := hcells 2 _ rfl
      have c3 := hcells 3 _ rfl
      have c4 := hcells 4 _ rfl
      simp only [Nat.add_zero] at c0
      have HP := Lib.hid hpop
      have HR := Lib.hid R
      clear hpop R hcells
      obtain ⟨m, hm⟩ : ∃ m, m = L0.length := ⟨_, rfl⟩
      rw [← hm] at c0 c1 c2 c3 c4 hcap ⊢
      have HM := Lib.hid hm
      clear hm
      have hmx : cap ≤ 9223372036854775807 := maxLen_le hmax
      clear hmax
      go_wp2_with fail
      rw [HC.out, Oper.upon_enter]
      have R := HR.out
      have hk := R.left
      rw [AbI.rest_pop, List.length_cons] at hk
      obtain ⟨k', rfl⟩ : ∃ k', gk = k' + 1 := ⟨_, hk.symm⟩
      have hdx := R.deep (x.t, x.d) (by rw [AbI.rest_pop]; exact List.mem_cons_self)
      have hI' : ∀ b, I b → ¬ M' b := fun b hb hm => by rcases R.own b hm with h | h; exact hIM b hb h; have := hI b hb; omega
      have hgM : ¬ M' g := R.apart g rfl
      have hfa : ∀ M, Fr M wr (wr.alloc (Obj.cells #[Value.int IntKind.i64 x.t.kind, Value.int IntKind.i64 x.t.n, Value.string x.t.s, Value.slice x.a x.t.args.length x.c, Value.int IntKind.i64 x.d] 94)) := fun M => Fr.alloc M wr _
      refine (hv k' st' M' _ x.t x.a x.c x.d I hI' (V.stab _ _ _ _ _ R.inv fun b hb => (hfa (fun _ => False)).block b (V.lt _ _ _ _ R.inv b hb) id) ((R.items x (by simp)).fr (hfa (fun _ => False)) fun _ _ => id) hdx.1 hdx.2).mono ?_
      rintro e w1 ⟨rfl, M1, hinv1, hown1, hfr1⟩
      have hN : ¬ M' wr.heap.size := fun hm => by have := V.lt _ _ _ _ R.inv _ hm; omega
      have b0 : w1.cell? ⟨wr.heap.size, 0, none⟩ = some (Value.int IntKind.i64 x.t.kind) := hfr1.cell (by simp) hN
      have b1 : w1.cell? ⟨wr.heap.size, 1, none⟩ = some (Value.int IntKind.i64 x.t.n) := hfr1.cell (by simp) hN
      have b2 : w1.cell? ⟨wr.heap.size, 2, none⟩ = some (Value.string x.t.s) := hfr1.cell (by simp) hN
      have b3 : w1.cell? ⟨wr.heap.size, 3, none⟩ = some (Value.slice x.a x.t.args.length x.c) := hfr1.cell (by simp) hN
      have b4 : w1.cell? ⟨wr.heap.size, 4, none⟩ = some (Value.int IntKind.i64 x.d) := hfr1.cell (by simp) hN
      clear c0 c1 c2 c3 c4
      have hs1 : SlC w1 I x.t.args x.a x.c := ((R.items x (by simp)).fr (hfa (fun _ => False)) fun _ _ => id).fr hfr1 hI'
      have hbk : ((k' + 1 : Nat) : Int) ≤ lim := R.small
      have hlf := Tm.length_le_flats (x.d + 1) x.t.args
      have hlr := AbI.length_le_rest L0
      have hk3 := hk
      rw [List.length_append] at hk3
      have hbd : x.t.args.length + L0.length ≤ 1000000000000 := by omega
      clear hbk hlf hlr hk3
      obtain ⟨K, hK, hKd, hKc⟩ := hs1.items (x.d + 1)
      have hKl : K.length = x.t.args.length := by rw [← hK, List.length_map]
      have H1 := Lib.hid (And.intro hinv1 (And.intro hown1 (And.intro hfr1 (And.intro hk (And.intro hI' (And.intro hK (And.intro hKd hI)))))))
      have HKC := Lib.hid hKc
      clear R hk hdx hinv1 hown1 hfr1 hI' hI hIM hs1 hfa hgM hN hK hKd hKc
      have hsz1 : wr.heap.size < w1.heap.size := by have := H1.out.2.2.1.size; simp at this; omega
      dsimp only [Act.put]
      generalize hn : x.t.args.length = n at *
      have HN := Lib.hid hn
      clear hn
      go_wp2_with fail
      obtain ⟨wo, rfl⟩ : ∃ wo : World, wo = wr := ⟨_, rfl⟩
      go_loopg [4, 6] n (fun k v i w2 => i = .int .i64 ((k : Int) - 1) ∧ WalkIn w w1 g L0 K k v w2)
      case atStart =>
        refine ⟨rfl, by omega, ?_, Fr.refl _ _, fun b hb => .inl (by simpa [Value.ownBlock] using hb.symm)⟩
        rw [List.drop_of_length_le (by omega), List.reverse_nil, List.append_nil, HM.out]
        have h3 := H1.out.2.2.1
        exact (HP.out.fr (Fr.alloc (fun _ => False) _ _) fun _ _ => id).fr h3 fun b hb => by
          simp only [Value.ownBlock, Option.some.injEq] at hb
          subst hb
          exact HR.out.apart _ rfl
      case round =>
        obtain ⟨rfl, Q⟩ := hrel
        rcases Nat.eq_zero_or_pos gk with h0 | h0
        · subst h0
          have HQ := Lib.hid Q
          clear Q
          simp only [Int.natCast_zero, Int.zero_sub]
          go_wp2_with fail
          go_roundg k'
          case measure => omega
          case rel =>
            have R := HR.out
            have Q := HQ.out
            obtain ⟨hinv1, hown1, hfr1, hk, hI', hK, hKd, hI⟩ := H1.out
            have hM1g : ¬ M1 g := fun hm => by
              rcases hown1 _ hm with h | h
              · exact R.apart g rfl h
              · simp at h; omega
            have hstk := Q.stk
            rw [List.drop_zero] at hstk
            have hrest := AbI.rest_push L0 K (x.d + 1) fun y hy => (hKd y hy).1
            rw [hK] at hrest
            have hmem : ∀ y, y ∈ Tm.flats x.t.args (x.d + 1) ++ AbI.rest L0 → y ∈ AbI.rest (L0 ++ [x]) := fun y hy => by rw [AbI.rest_pop]; exact List.mem_cons_of_mem _ hy
            have hIg : ∀ b, I b → b ≠ g := fun b hb => by have := hI b hb; omega
            refine ⟨L0 ++ K.reverse, V.step st' x.t x.d, M1, ?_⟩
            refine ⟨hstk, ?_, V.stab _ _ _ _ _ hinv1 fun b hb => Q.fr.block b (V.lt _ _ _ _ hinv1 b hb) fun hg => hM1g (hg ▸ hb), ?_, ?_, ?_, ?_, ?_, ?_, ?_⟩
            · intro y hy
              rcases List.mem_append.1 hy with hy | hy
              · exact ((R.items y (by simp [hy])).fr ((Fr.alloc (fun b => M' b) _ _).trans hfr1) hI').fr Q.fr hIg
              · exact ((hKd y (List.mem_reverse.1 hy)).2).fr Q.fr hIg
            · rw [hrest]; omega
            · have := R.small; omega
            · rw [hrest]; have := R.fold; rw [AbI.rest_pop] at this; exact this
            · intro b hb
              rcases hown1 b hb with h | h
              · exact R.own b h
              · have := R.fr.size; simp at h; right; omega
            · have hf1 : Fr M w w1 := R.fr.trans' (((Fr.alloc (fun b => M' b) _ _).trans hfr1)) R.own
              exact hf1.trans' Q.fr fun i hi => by right; omega
            · intro b hb hm
              rcases Q.row b hb with h | h
              · exact hM1g (h ▸ hm)
              · have := V.lt _ _ _ _ hinv1 b hm; omega
            · intro y hy
              rw [hrest] at hy
              exact R.deep y (hmem y hy)
        · obtain ⟨j, rfl⟩ : ∃ j, gk = j + 1 := ⟨gk - 1, by omega⟩
          clear h0
          have hjl := Q.le
          obtain ⟨y, hy⟩ : ∃ y, K[j]? = some y := ⟨K[j], List.getElem?_eq_getElem (by omega)⟩
          obtain ⟨bb, oo, ha, hc⟩ := HKC.out (by omega)
          obtain ⟨hib, k0, k1, k2, k3⟩ := hc j y hy
          have hbg' : bb ≠ g := by have := H1.out.2.2.2.2.2.2.2 bb hib; omega
          have c0 := Q.fr.cell k0 hbg'
          have c1 := Q.fr.cell k1 hbg'
          have c2 := Q.fr.cell k2 hbg'
          have c3 := Q.fr.cell k3 hbg'
          have hng : wo.heap.size ≠ g := by omega
          have d3 := Q.fr.cell b3 (by simpa using hng)
          have d4 := Q.fr.cell b4 (by simpa using hng)
          rw [ha] at d3
          obtain ⟨hyd, _⟩ := H1.out.2.2.2.2.2.2.1 y (List.mem_of_getElem? hy)
          have hdl : x.d ≤ lim := (HR.out.deep (x.t, x.d) (by rw [AbI.rest_pop]; exact List.mem_cons_self)).2
          have hd1 : 1 ≤ x.d := (HR.out.deep (x.t, x.d) (by rw [AbI.rest_pop]; exact List.mem_cons_self)).1
          have HY := Lib.hid (And.intro ha (And.intro hyd hy))
          have HQ := Lib.hid Q
          clear Q k0 k1 k2 k3 hc ha hyd hy b0 b1 b2 b3 b4
          have hjn : j < n := by omega
          simp only [Int.natCast_succ, Int.add_sub_cancel]
          go_wp2_with fail
          have hws : IntKind.i64.wrap (x.d + 1) = x.d + 1 := IntWalk.i64_in _ (by omega)
          obtain ⟨i0, hi0, hz0, hz1, hz2⟩ := info_parts infoAbove
          have hst := HQ.out.stk
          obtain ⟨u4a, u4c, rfl⟩ := hst.slice
          obtain ⟨nn, hnn⟩ : ∃ nn, (L0 ++ (K.drop (j + 1)).reverse).length = nn := ⟨_, rfl⟩
          have hnb : nn ≤ 2000000000001 := by rw [← hnn]; simp only [List.length_append, List.length_reverse, List.length_drop]; omega
          have HST : Hid (wr.ownsRow w.heap.size 94 5 (.slice u4a (L0 ++ (K.drop (j + 1)).reverse).length u4c) (L0 ++ (K.drop (j + 1)).reverse).length ((L0 ++ (K.drop (j + 1)).reverse).flatMap AbI.cells)) := hst
          clear hst
          rw [hnn] at HST ⊢
          have HNN := Lib.hid hnn
          clear hnn
          have HM1 : Hid (nn + 1 ≤ maxLen) := by show nn + 1 ≤ maxLen; simp only [maxLen]; omega
          have hsz2 : w.heap.size ≤ wr.heap.size := by have := HQ.out.fr.size; omega
          go_region_law (refine step_append_lies _ rfl (.tmp 39) (.tmp 50) 95 rfl w.heap.size 94 i0 _ 5 64 Tryd.underlying95 hi0 hz0 hz1 hz2 rfl (by decide) (.slice u4a nn u4c) nn _ (by simp [Act.eval]) (by exact World.ownsRow.drew (World.ownsRow.alloc HST.out _)) ⟨wr.heap.size, 0, none⟩ 1 1 [.int .i64 y.t.kind, .int .i64 y.t.n, .string y.t.s, .slice y.a y.t.args.length y.c, .int .i64 (x.d + 1)] (by simp [Act.eval]) rfl (by exact World.news_of_block (heap_alloc_new _ _)) (by simp [Value.oneCell']) (by decide) HM1.out (by omega) (by simp; omega) _ rfl ?_; intro g2 cap2 w2 hown2 hgrow2 hat2 hlt2; have HG := Lib.hid (And.intro hown2 (And.intro hgrow2 (And.intro hat2 hlt2))); clear hown2 hgrow2 hat2 hlt2)
          all_goals
            go_wp2_with fail
            go_roundg j
            case measure => omega
            case rel =>
              refine ⟨rfl, ?_⟩
              obtain ⟨hown2, hgrow2, hat2, hlt2⟩ := HG.out
              have hyd := HY.out.2.1
              have hyj := HY.out.2.2
              have hdrop : (K.drop j).reverse = (K.drop (j + 1)).reverse ++ [y] := by
                rw [← List.reverse_cons]
                congr 1
                rw [List.drop_eq_getElem_cons (by omega)]
                congr 1
                exact (List.getElem?_eq_some_iff.1 hyj).2
              have hf2 : Fr (fun b => some b = (Value.slice u4a nn u4c).ownBlock) wr w2 := ((Fr.alloc _ wr _).trans (Fr.drew _ _)).trans (Fr.grown hgrow2 fun k hk => hk.symm)
              have hrow := HQ.out.row
              rw [HNN.out] at hrow
              refine ⟨by omega, ?_, HQ.out.fr.trans' hf2 fun i hi => hrow i hi.symm, ?_⟩
              · rw [hdrop, ← List.append_assoc]
                refine Stk.push ?_
                rw [HNN.out, AbI.cells, hyd]
                exact hown2
              · intro b hb
                simp only [Value.ownBlock, Option.some.injEq] at hb
                subst hb
                rcases hat2 with h | h
                · exact hrow _ h
                · have := HQ.out.fr.size; simp only [World.size_drew, World.size_alloc] at h; right; omega
end Go.Proofs.YtkjkckdjenjgdaaDoor
