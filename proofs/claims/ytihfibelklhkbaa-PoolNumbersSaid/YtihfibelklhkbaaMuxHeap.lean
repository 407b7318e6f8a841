/- A connection's box in memory (mux.Mux): how many ids are open on it; what makes one, what opens an id. Condition: at most eight ids. -/
import Derived.Test.YtihfibelklhkbaaGMap
import Derived.Test.YtihfibelklhkbaaBuild
namespace Go.Proofs.Ytihfibelklhkbaa
open Go.RowKit
namespace Rg
/-- A property of a value and of blocks of its own, that steps elsewhere leave. -/
structure QK (α : Type) where
  q : α → (Nat → Prop) → World → Prop
  stab : ∀ x F M w w', q x F w → Step M w w' → (∀ k, M k → ¬ F k) → q x F w'
def QV (K : QK Value) : Value → (Nat → Prop) → World → Prop := K.q
theorem stable_qv {w0 : World} {own0 : Nat → Nat → Prop} {K : QK Value} {l : List Fact} (h : ∀ φ ∈ l, Stable w0 own0 φ) : ∀ φ ∈ Fact.any (QV K) :: l, Stable w0 own0 φ := fun φ hm => by
  rcases List.mem_cons.1 hm with rfl | hm
  · exact fun v F M w w' hh hs hM => K.stab v F M w w' hh hs (fun k hk => (hM k hk).1)
  · exact h φ hm
/-- A map that leads, at a key, to an element of that property. -/
def GMade (E : Enc) (mb n : Nat) (f : Int → Option E.α) (k : Int) (K : QK E.α) : Value → (Nat → Prop) → World → Prop := fun _ F w =>
  ∃ x G, GMap E w mb n (fun y => if y = k then some x else f y) ∧ K.q x G w ∧ ∀ j, F j ↔ j = mb ∨ G j
theorem stable_gmade {w0 : World} {own0 : Nat → Nat → Prop} {E : Enc} {mb n : Nat} {f : Int → Option E.α} {k : Int} {K : QK E.α} {l : List Fact} (h : ∀ φ ∈ l, Stable w0 own0 φ) : ∀ φ ∈ Fact.any (GMade E mb n f k K) :: l, Stable w0 own0 φ := fun φ hm => by
  rcases List.mem_cons.1 hm with rfl | hm
  · rintro v F M w w' ⟨x, G, hm, hq, hF⟩ hs hM
    exact ⟨x, G, hm.step hs (fun hx => (hM mb hx).1 ((hF mb).2 (.inl rfl))), K.stab _ _ _ _ _ hq hs (fun j hj hg => (hM j hj).1 ((hF j).2 (.inr hg))), hF⟩
  · exact h φ hm
section
variable {P : Program} {ops : Array Oper} {w0 : World} {own0 : Nat → Nat → Prop} {cons : Nat → List Nat} {facts : List Fact} {i : Nat} {o : Oper} {vs : Nat → Value} {a : Act} {os : List Oper} {φs : List Fact}
/-- A map's update, the map this operation's own, with an element made of what operation d made. -/
theorem Chain.gmap {E : Enc} {mb n : Nat} {f : Int → Option E.α} {k : Int} {t et : TypeId} {K : QK E.α} {p : Value → (Nat → Prop) → World → Prop} (d : Nat) (m x v : Operand) (hop : o.op = Op.mapUpdate t m x v) (hm : a.eval m = .map (some mb)) (hx : a.eval x = .int .i64 k) (ht : Try.prog.underlying t = some (.map 3 et))
    (hP : P = Try.prog) (hmap : GMap E w0 mb n f) (hn1 : n < maxLen) (hk : (Lit.int .i64 k).wf = true) (ho : own0 i mb)
    (hf : facts[d]? = some (.any p)) (hd : (deps o).contains d = true) (hn : ∀ j, j ≠ i → d ∉ cons j) (hc : d ∈ cons i) (hown : ∀ j g, own0 j g → j = i) (hg : Region.wanted o (yielded ops a.tmps) = true)
    (hv : ∀ F w, p (vs d) F w → (∀ j, F j → w0.heap.size ≤ j) → ∃ y, a.eval v = E.enc y ∧ K.q y F w)
    (hr : Chain P ops w0 own0 cons facts vs os φs (i + 1) (a.put o.dst (vs i))) : Chain P ops w0 own0 cons facts vs (o :: os) (.any (GMade E mb (n + 1) f k K) :: φs) i a := by
  subst hP
  refine ⟨?_, hr⟩
  intro F w Kc hp hK
  rw [if_pos hg]
  have hown2 : ∀ j, F d j → w0.heap.size ≤ j ∧ j ≠ mb ∧ j < w.heap.size := by
    intro j hj
    obtain ⟨hlt, hold, hmine⟩ := hp.own d j (by simpa using hd) hn hj
    refine ⟨?_, fun e => hmine (by rw [e]; exact ho), hlt⟩
    rcases Nat.lt_or_ge j w0.heap.size with hl | hge
    · exact absurd ⟨hl, fun j2 hj2 => hmine (by have := hown j2 j hj2; subst this; exact hj2)⟩ hold
    · exact hge
  obtain ⟨y, hvy, hq⟩ := hv _ w (hp.fact d _ (by simpa using hd) hn hf) (fun j hj => (hown2 j hj).1)
  have hmw : GMap E w mb n f := hmap.move (hp.mine mb ho)
  obtain ⟨w', hrun, hm', hon⟩ := hmw.update ht hn1 hk y
  unfold Oper.wp
  simp only [execOp, hop, hm, hx, hvy, Sem.run_bind, hrun, Result.andThen_ok, Sem.run_pure]
  refine hK undef w' ⟨fun j => j = mb ∨ F d j, hon.mono (fun j _ hj => .inl (by rw [hj]; exact ho)), ⟨y, F d, hm', K.stab _ _ _ _ _ hq hon (fun j hj hF => (hown2 j hF).2.1 hj), fun _ => Iff.rfl⟩, ?_⟩
  rintro j (rfl | hj)
  · exact ⟨hm'.lt, .inr (.inl ho)⟩
  · exact ⟨Nat.lt_of_lt_of_le (hown2 j hj).2.2 hon.size, .inr (.inr ⟨d, hc, hj⟩)⟩
end
end Rg

/-! ### a connection's box -/
abbrev muxObj (ids lb cb : Nat) : Obj := .cells #[.int .i64 (ids : Int), .map (some lb), .pointer (some ⟨cb, 0, none⟩), .string (bs []), .int .i64 0, .slice none 0 0, .bool false] 59
/-- Block m is a connection with ids 1 .. k open, of ids; its lanes are the map in block lb. -/
structure MuxAt (w : World) (m lb ids k : Nat) : Prop where
  box : ∃ cb, w.heap[m]? = some (muxObj ids lb cb)
  map : ∃ f : Int → Option (Option Nat), GMap EPtr w lb k f ∧ (∀ i : Int, 1 ≤ i → i ≤ k → ∃ b, f i = some (some b)) ∧ (∀ i : Int, ¬ (1 ≤ i ∧ i ≤ k) → f i = none)
theorem MuxAt.move {w w' : World} {m lb ids k : Nat} (h : MuxAt w m lb ids k) (hm : w'.heap[m]? = w.heap[m]?) (hl : w'.heap[lb]? = w.heap[lb]?) : MuxAt w' m lb ids k := by
  obtain ⟨⟨cb, h1⟩, f, h2, h3⟩ := h
  exact ⟨⟨cb, by rw [hm]; exact h1⟩, f, h2.move hl, h3⟩
theorem MuxAt.lt {w : World} {m lb ids k : Nat} (h : MuxAt w m lb ids k) : m < w.heap.size ∧ lb < w.heap.size := by
  obtain ⟨⟨cb, h1⟩, f, h2, h3⟩ := h
  exact ⟨box_lt h1, h2.lt⟩
theorem MuxAt.step {w w' : World} {m lb ids k : Nat} {M : Nat → Prop} (h : MuxAt w m lb ids k) (hs : Rg.Step M w w') (h1 : ¬ M m) (h2 : ¬ M lb) : MuxAt w' m lb ids k :=
  h.move (hs.block m h.lt.1 h1) (hs.block lb h.lt.2 h2)
theorem MuxAt.kept {w w' : World} {m lb ids k : Nat} (h : MuxAt w m lb ids k) (hs : Below w.heap.size w w') : MuxAt w' m lb ids k :=
  h.step (Rg.below_step (M := fun _ => False) hs rfl) id id

theorem cutnew_any (most : Int) (w : World) : Calls Try.prog 28 #[.int .i64 most] w fun e w' => ∃ ob, e = .returned (.pointer (some ⟨w.heap.size, 0, none⟩)) ∧ w' = w.alloc ob := by
  go_enter Try.func28, Try.ntmps28
  go_wp2_with fail
  go_ret
  exact ⟨_, rfl, rfl⟩
theorem lnew_any (i : Int) (w : World) : Calls Try.prog 29 #[.int .i64 i, .slice none 0 0, .string (bs [])] w fun e w' => ∃ b, e = .returned (.pointer (some ⟨b, 0, none⟩)) ∧ Below w.heap.size w w' := by
  have hB := fun w => build_any i [] [] (.slice none 0 0) w (fun w' _ => pbytes_nil none 0 w') (by simp [pairB]) (by simp)
  have HB := Lib.hid hB
  clear hB
  go_enter Try.func29, Try.ntmps29
  go_wp2_with fail
  refine (HB.out _).mono ?_
  rintro e w1 ⟨u, rfl, hrow, W1⟩
  obtain ⟨va, vc, rfl⟩ := own_slice hrow
  go_wp2_with fail
  go_ret
  exact ⟨_, rfl, W1.alloc W1.size _⟩
set_option maxHeartbeats 4000000 in
theorem mnew_any (n : Nat) (h1 : 1 ≤ n) (h8 : n ≤ 8) (w : World) : Calls Try.prog 17 #[.int .i64 (n : Int)] w fun e w' => ∃ m lb, e = .returned (.pointer (some ⟨m, 0, none⟩)) ∧ w.heap.size ≤ m ∧ w.heap.size ≤ lb ∧ MuxAt w' m lb n 0 ∧ Below w.heap.size w w' := by
  have q1 : max (n : Int) 1 = n := by omega
  have q2 : min (n : Int) 8 = n := by omega
  have hmm := @run_makeMap Try.prog
  go_enter Try.func17, Try.ntmps17
  go_wp2_with fail
  refine (cutnew_any 65535 _).mono ?_
  rintro e w1 ⟨ob, rfl, rfl⟩
  go_wp2_with fail
  go_ret
  have hm : GMap EPtr (w.alloc (.map #[] 0)) w.heap.size 0 (fun _ => none) := GMap.made w
  have W2 : ∀ x, Below (w.alloc (.map #[] 0)).heap.size (w.alloc (.map #[] 0)) (((w.alloc (.map #[] 0)).alloc ob).alloc x) := fun x => (below_alloc _ _).alloc (below_alloc _ _).size _
  have W3 : ∀ x, Below w.heap.size w (((w.alloc (.map #[] 0)).alloc ob).alloc x) := fun x => below_later (below_alloc w _) (W2 x)
  have hbox : (((w.alloc (.map #[] 0)).alloc ob).alloc (muxObj n w.heap.size (w.heap.size + 1))).heap[w.heap.size + 1 + 1]? = some (muxObj n w.heap.size (w.heap.size + 1)) := by
    rw [show w.heap.size + 1 + 1 = ((w.alloc (.map #[] 0)).alloc ob).heap.size by simp]
    exact heap_alloc_new _ _
  exact ⟨_, w.heap.size, rfl, by omega, Nat.le_refl _, ⟨⟨_, hbox⟩, fun _ => none, hm.kept (W2 _), fun i h1 h2 => by omega, fun i _ => rfl⟩, W3 _⟩
section
variable {w : World} {m lb ids k : Nat}
theorem MuxAt.zero (w : World) : (zeroValue 56).run Try.prog w = .ok (EPtr.enc EPtr.zero) w := by kernel_rfl
end
theorem wf_small {i : Int} (h1 : -1000000 ≤ i) (h2 : i ≤ 1000000) : (Lit.int .i64 i).wf = true := by
  exact WalkArith.wf_i64 (by omega)
set_option maxRecDepth 100000 in
set_option maxHeartbeats 4000000 in
theorem mopen_full (w : World) (m lb ids : Nat) (h8 : ids ≤ 8) (h : MuxAt w m lb ids ids) :
    Calls Try.prog 18 #[.pointer (some ⟨m, 0, none⟩), .slice none 0 0, .string (bs [])] w fun e w' => e = .returned (.tuple #[.int .i64 0, eV 16]) ∧ w' = w := by
  obtain ⟨⟨cb, hb⟩, f, hm, hin, hout⟩ := h
  have c0 := box_cells hb 0
  have c1 := box_cells hb 1
  have c6 := box_cells hb 6
  have z := box_lt hb
  go_enter Try.func18, Try.ntmps18
  go_wp2_with fail
  go_loopw [8] (fun i wr => ∃ j : Nat, j ≤ ids ∧ i = .int .i64 ((j : Int) + 1) ∧ wr = w) (fun i _ => ids + 1 - (zOf i).toNat)
  case atStart => exact ⟨0, Nat.zero_le _, rfl, rfl⟩
  case round =>
    obtain ⟨j, hj, rfl, rfl⟩ := hrel
    by_cases hlt : j < ids
    · have hlk := hm.look Try.underlying55 (MuxAt.zero wr) (k := (j : Int) + 1) (wf_small (by omega) (by omega))
      obtain ⟨b, hfb⟩ := hin ((j : Int) + 1) (by omega) (by omega)
      rw [hfb] at hlk
      replace hlk : (Instr.lookup 55 (.map (some lb)) (.int .i64 ((j : Int) + 1)) false).run Try.prog wr = .ok (.pointer (some ⟨b, 0, none⟩)) wr := hlk
      have q1 : decide ((j : Int) + 1 ≤ (ids : Int)) = true := decide_eq_true (by omega)
      go_wp2_with fail
      go_roundw
      case rel => exact ⟨j + 1, by omega, by go_num, by simp⟩
      case measure => simp [zOf]; omega
    · obtain rfl : j = ids := by omega
      have q1 : decide ((j : Int) + 1 ≤ (j : Int)) = false := decide_eq_false (by omega)
      go_wp2_with fail
      go_ret2
      exact ⟨rfl, rfl⟩

def KPtr : Rg.QK Value := ⟨fun v _ _ => ∃ g, v = .pointer (some ⟨g, 0, none⟩), fun _ _ _ _ _ h _ _ => h⟩
def KPtrE : Rg.QK EPtr.α := ⟨fun v _ _ => ∃ g, v = some g, fun _ _ _ _ _ h _ _ => h⟩
set_option maxRecDepth 100000 in
set_option maxHeartbeats 4000000 in
theorem mopen_ok (w : World) (m lb ids k : Nat) (h8 : ids ≤ 8) (hk : k < ids) (h : MuxAt w m lb ids k) :
    Calls Try.prog 18 #[.pointer (some ⟨m, 0, none⟩), .slice none 0 0, .string (bs [])] w fun e w' => e = .returned (.tuple #[.int .i64 ((k : Int) + 1), .nilIface]) ∧ MuxAt w' m lb ids (k + 1) ∧ Only lb w w' := by
  obtain ⟨⟨cb, hb⟩, f, hm, hin, hout⟩ := h
  have c0 := box_cells hb 0
  have c1 := box_cells hb 1
  have c6 := box_cells hb 6
  have z := box_lt hb
  go_enter Try.func18, Try.ntmps18
  go_wp2_with fail
  go_loopw [8] (fun i wr => ∃ j : Nat, j ≤ k ∧ i = .int .i64 ((j : Int) + 1) ∧ wr = w) (fun i _ => ids + 1 - (zOf i).toNat)
  case atStart => exact ⟨0, Nat.zero_le _, rfl, rfl⟩
  case round =>
    obtain ⟨j, hj, rfl, rfl⟩ := hrel
    have q1 : decide ((j : Int) + 1 ≤ (ids : Int)) = true := decide_eq_true (by omega)
    have hlk := hm.look Try.underlying55 (MuxAt.zero wr) (k := (j : Int) + 1) (wf_small (by omega) (by omega))
    by_cases hlt : j < k
    · obtain ⟨b, hfb⟩ := hin ((j : Int) + 1) (by omega) (by omega)
      rw [hfb] at hlk
      replace hlk : (Instr.lookup 55 (.map (some lb)) (.int .i64 ((j : Int) + 1)) false).run Try.prog wr = .ok (.pointer (some ⟨b, 0, none⟩)) wr := hlk
      go_wp2_with fail
      go_roundw
      case rel => exact ⟨j + 1, by omega, by go_num, by simp⟩
      case measure => simp [zOf]; omega
    · obtain rfl : j = k := by omega
      rw [hout ((j : Int) + 1) (by omega)] at hlk
      replace hlk : (Instr.lookup 55 (.map (some lb)) (.int .i64 ((j : Int) + 1)) false).run Try.prog wr = .ok (.pointer none) wr := hlk
      have hwf : (Lit.int .i64 ((j : Int) + 1)).wf = true := wf_small (by omega) (by omega)
      have hmo := hm.obj
      have hne : m ≠ lb := by
        obtain ⟨es, cl, ho⟩ := hmo
        rintro rfl
        rw [hb] at ho
        cases ho
      go_wp2_with fail
      have hS : ∀ wx, Rg.Step (fun k => ∃ i, i = 9 ∧ k = lb) wr wx → wx.cell? ⟨m, 1, none⟩ = some (.map (some lb)) ∧ m < wx.heap.size := by
        intro wx hs
        have h1 := (hs.block m z (by rintro ⟨_, _, h⟩; exact hne h)).trans hb
        exact ⟨box_cells h1 1, box_lt h1⟩
      refine Rg.region1 40 [.val ?_, .val ?_, .val ?_, .val ?_, .val ?_, .val ?_, .val ?_, .val ?_, .any (Rg.QV KPtr), .any (Rg.GMade EPtr lb (j + 1) f ((j : Int) + 1) KPtrE)] [[], [], [], [], [], [], [], [], [], [8]] (fun i k => i = 9 ∧ k = lb) (by kernel_rfl) (by decide +kernel) (by simp) rfl (by simp) ?hstab ?hown ?hdis ?hchain ?hend
      case hstab => exact Rg.stable_val (Rg.stable_val (Rg.stable_val (Rg.stable_val (Rg.stable_val (Rg.stable_val (Rg.stable_val (Rg.stable_val (Rg.stable_qv (Rg.stable_gmade (Rg.stable_nil))))))))))
      case hchain =>
        intro vs
        -- 0: slot 29 := Op.move t0
        refine Rg.Chain.pure rfl (fun w => by go_simp; (try go_ints); with_reducible rfl) ?_
        simp only [Act.put, List.setIfInBounds_toArray, List.set_cons_succ, List.set_cons_zero]
        -- 1: slot 30 := Op.nilCheck t29
        refine Rg.Chain.pure rfl (fun w => by go_simp; (try go_ints); with_reducible rfl) ?_
        simp only [Act.put, List.setIfInBounds_toArray, List.set_cons_succ, List.set_cons_zero]
        -- 2: slot 31 := Op.fieldAddr 59 t30 1
        refine Rg.Chain.pure rfl (fun w => by go_simp; (try go_ints); with_reducible rfl) ?_
        simp only [Act.put, List.setIfInBounds_toArray, List.set_cons_succ, List.set_cons_zero]
        -- 3: slot 32 := Op.load 55 t31
        refine Rg.Chain.read rfl (fun wx hs => by obtain ⟨q0, q1⟩ := hS wx hs; go_simp; with_reducible rfl) ?_
        simp only [Act.put, List.setIfInBounds_toArray, List.set_cons_succ, List.set_cons_zero]
        -- 4: slot 33 := Op.move t8
        refine Rg.Chain.pure rfl (fun w => by go_simp; (try go_ints); with_reducible rfl) ?_
        simp only [Act.put, List.setIfInBounds_toArray, List.set_cons_succ, List.set_cons_zero]
        -- 5: slot 34 := Op.move t8
        refine Rg.Chain.pure rfl (fun w => by go_simp; (try go_ints); with_reducible rfl) ?_
        simp only [Act.put, List.setIfInBounds_toArray, List.set_cons_succ, List.set_cons_zero]
        -- 6: slot 35 := Op.move t1
        refine Rg.Chain.pure rfl (fun w => by go_simp; (try go_ints); with_reducible rfl) ?_
        simp only [Act.put, List.setIfInBounds_toArray, List.set_cons_succ, List.set_cons_zero]
        -- 7: slot 36 := Op.move t2
        refine Rg.Chain.pure rfl (fun w => by go_simp; (try go_ints); with_reducible rfl) ?_
        simp only [Act.put, List.setIfInBounds_toArray, List.set_cons_succ, List.set_cons_zero]
        -- 8: slot 37 := Op.call ( value (Operand.func 29), args := #[t34, t35, t36], argTypes := #[3, 44, 9] )
        refine Rg.Chain.callAny ?_ ?_ rfl (fun w => ?_) (fun wx hs => ?_) ?_
        rotate_left 2
        · go_simp; (try go_ints); constructor <;> with_reducible rfl
        · exact (lnew_any ((j : Int) + 1) wx).mono (fun e w' h => by obtain ⟨b, h1, h2⟩ := h; exact ⟨_, h1, ⟨b, rfl⟩, h2⟩)
        simp only [Act.put, List.setIfInBounds_toArray, List.set_cons_succ, List.set_cons_zero]
        -- 9: slot none := Op.mapUpdate 55 t32 t33 t37
        refine Rg.Chain.gmap 8 _ _ _ rfl rfl rfl Try.underlying55 rfl hm (by unfold maxLen; omega) hwf ⟨rfl, rfl⟩ rfl (by decide) (Rg.only 9 8 (by decide)) (by decide) (by rintro j g ⟨rfl, _⟩; rfl) rfl (fun F w hp _ => by obtain ⟨g, hg⟩ := hp; exact ⟨some g, hg, ⟨g, rfl⟩⟩) ?_
        simp only [Act.put]
        exact Rg.Chain.nil
      case hown => rintro j k ⟨_, rfl⟩; exact hm.lt
      case hdis => rintro i j k ⟨rfl, _⟩ ⟨rfl, _⟩; rfl
      case hend =>
        intro vs F w3 hE
        have f9 := hE.fact 9 _ (Rg.kept 9 (by decide)) rfl
        have hst : Only lb wr w3 := hE.step.mono (fun k _ hk => by obtain ⟨_, _, h⟩ := hk; exact h)
        obtain ⟨x, G, em, ⟨g, rfl⟩, _⟩ := f9
        simp only [Rg.finalAct, Rg.slot_val, Rg.slot_any, Act.put, List.setIfInBounds_toArray, List.set_cons_succ, List.set_cons_zero]
        generalize vs 8 = v8
        generalize vs 9 = v9
        go_wp2_with fail
        go_ret2
        refine ⟨rfl, ⟨⟨cb, (hst.block m z hne).trans hb⟩, _, em, fun i h1 h2 => ?_, fun i hi => ?_⟩, hst⟩
        · by_cases e : i = (j : Int) + 1
          · exact ⟨g, by simp [e]⟩
          · simp only [if_neg e]
            exact hin i h1 (by omega)
        · have e : i ≠ (j : Int) + 1 := by omega
          simp only [if_neg e]
          exact hout i (by omega)
end Go.Proofs.Ytihfibelklhkbaa
