/- What pool.New and an opening that is met compute. Conditions: the pool in memory; all connections are the backend's, or none is; fewer than a thousand numbers. -/
import Derived.Test.YtihfibelklhkbaaPoolOpen
namespace Go.Proofs.Ytihfibelklhkbaa
open Go.RowKit
namespace Rg
section
variable {P : Program} {ops : Array Oper} {w0 : World} {own0 : Nat → Nat → Prop} {cons : Nat → List Nat} {facts : List Fact} {i : Nat} {o : Oper} {vs : Nat → Value} {a : Act} {os : List Oper} {φs : List Fact}
/-- What makes a value of what operation d made, and takes up its blocks. -/
theorem Chain.mades {p : Value → (Nat → Prop) → World → Prop} {K : QK Value} (d : Nat) (hf : facts[d]? = some (.any p)) (hg : Region.wanted o (yielded ops a.tmps) = true) (hd : (deps o).contains d = true) (hn : ∀ j, j ≠ i → d ∉ cons j) (hc : d ∈ cons i)
    (h : ∀ F w, p (vs d) F w → ∃ c, (execOp a.eval o).run P w = .ok (.value c) w ∧ K.q c F w)
    (hr : Chain P ops w0 own0 cons facts vs os φs (i + 1) (a.put o.dst (vs i))) : Chain P ops w0 own0 cons facts vs (o :: os) (.any (QV K) :: φs) i a := by
  refine ⟨?_, hr⟩
  intro F w Kc hp hK
  rw [if_pos hg]
  unfold Oper.wp
  obtain ⟨c, hrun, hq⟩ := h (F d) w (hp.fact d _ (by simpa using hd) hn hf)
  rw [hrun]
  exact hK c w ⟨F d, Step.refl _ _, hq, fun k hk => ⟨(hp.own d k (by simpa using hd) hn hk).1, .inr (.inr ⟨d, hc, hk⟩)⟩⟩
end
end Rg

set_option maxRecDepth 100000 in
set_option maxHeartbeats 4000000 in
theorem popen_ok (B : Nat) (w : World) (pb : Nat) (S : Pl) (h : PoolAt B w pb S) (b : Nat) (hb : b < S.bk) (M : List Cn) (hw : Whole S b M) (c : Cn) (hc : c ∈ S.l) (hch : chooseN (kOf S.l) S.cs (M.map (·.n)) = c.n) (hk : c.k < S.ids) :
    Calls Try.prog 7 #[.pointer (some ⟨pb, 0, none⟩), .int .i64 (b : Int), .slice none 0 0, .string (bs [])] w fun e w' => e = .returned (.tuple #[.int .i64 (c.n : Int), .int .i64 ((c.k : Int) + 1), .nilIface]) ∧ PoolAt B w' pb { S with l := bump S.l c.n } ∧ Below B w w' := by
  have hT := to_whole B w pb S h b M hw
  have hC := fun w1 (W1 : Below w.heap.size w w1) a cap hr => pchoose_any B w1 pb S (h.keep W1) M hw.mem.1 (by obtain ⟨_, _, _, h⟩ := h; exact Nat.le_trans hw.mem.2 h.ok.len) a cap hr
  rw [hch] at hC
  have HC := Lib.hid hC
  clear hC
  obtain ⟨mb, mo, lo, h⟩ := h
  have hpos := (h.ok.low c hc).1
  have h8 := h.ok.ids.2
  clear hch hw
  have c0 := box_cells h.box 0
  have z := box_lt h.box
  have q1 : decide ((b : Int) < 0) = false := decide_eq_false (by omega)
  have q2 : decide ((b : Int) ≥ (S.bk : Int)) = false := decide_eq_false (by omega)
  have q3 : decide ((S.bk : Int) ≤ (b : Int)) = false := decide_eq_false (by omega)
  have q4 : decide ((c.n : Int) = 0) = false := decide_eq_false (by omega)
  have q5 : ((c.n : Int) == 0) = false := by simp; omega
  go_enter Try.func7, Try.ntmps7
  go_wp2_with fail
  refine hT.mono ?_
  rintro e w1 ⟨a, cap, rfl, W1, hr⟩
  go_wp2_with fail
  refine (HC.out w1 W1 a cap hr).mono ?_
  rintro e w2 ⟨rfl, W2⟩
  have W12 := below_later W1 W2
  have h2 := h.keep W12
  have c3 := box_cells h2.box 3
  have z2 := box_lt h2.box
  have hlk := h2.look hc
  have hf0 := con_field0
  have hm := h2.mux c hc
  clear hr
  go_wp2_with fail
  refine (mopen_ok w2 _ _ _ _ h8 hk hm).mono ?_
  rintro e w3 ⟨rfl, hm3, hon⟩
  go_wp2_with fail
  refine (is_nil 16 _).mono ?_
  rintro e w4 ⟨rfl, rfl⟩
  go_wp2_with fail
  refine (is_nil 18 _).mono ?_
  rintro e w4 ⟨rfl, rfl⟩
  go_wp2_with fail
  go_ret3
  exact ⟨rfl, ⟨mb, mo, lo, h2.opened hc hk hm3 hon⟩, (W12.mono h.base).trans (only_base hon (h.low.2.2 c hc).2 h2.base)⟩

/-- A connection that was made. -/
def KMux (ids : Nat) : Rg.QK Value := ⟨fun v F w => ∃ m lb, v = .pointer (some ⟨m, 0, none⟩) ∧ F m ∧ F lb ∧ MuxAt w m lb ids 0,
  fun _ F M w w' h hs hM => by obtain ⟨m, lb, h1, h2, h3, h4⟩ := h; exact ⟨m, lb, h1, h2, h3, h4.step hs (fun hm => hM m hm h2) (fun hm => hM lb hm h3)⟩⟩
def KCon (ids b : Nat) : Rg.QK Value := ⟨fun v F w => ∃ m lb, v = .agg #[.pointer (some ⟨m, 0, none⟩), .int .i64 (b : Int)] ∧ F m ∧ F lb ∧ MuxAt w m lb ids 0,
  fun _ F M w w' h hs hM => by obtain ⟨m, lb, h1, h2, h3, h4⟩ := h; exact ⟨m, lb, h1, h2, h3, h4.step hs (fun hm => hM m hm h2) (fun hm => hM lb hm h3)⟩⟩
def KConE (ids b B : Nat) : Rg.QK ECon.α := ⟨fun v F w => ∃ m lb, v = (some m, (b : Int)) ∧ B ≤ m ∧ B ≤ lb ∧ F m ∧ F lb ∧ MuxAt w m lb ids 0,
  fun _ F M w w' h hs hM => by obtain ⟨m, lb, h1, h5, h6, h2, h3, h4⟩ := h; exact ⟨m, lb, h1, h5, h6, h2, h3, h4.step hs (fun hm => hM m hm h2) (fun hm => hM lb hm h3)⟩⟩
theorem con_build (m b : Nat) (w : World) : (Instr.build 47 #[(0, .pointer (some ⟨m, 0, none⟩)), (1, .int .i64 (b : Int))]).run Try.prog w = .ok (.agg #[.pointer (some ⟨m, 0, none⟩), .int .i64 (b : Int)]) w := by kernel_rfl

theorem PoolH.added {B : Nat} {w u w3 : World} {pb mb : Nat} {mo lo : Nat → Nat} {S : Pl} (h : PoolH B w pb mb mo lo S) (b : Nat) (hl : S.last < 1000) (hst : Only pb w u) (eb : u.heap[pb]? = some (poolObj S.bk S.cs S.ids mb (S.last + 1))) (hst3 : Only mb u w3) {m lb : Nat}
    (em3 : GMap ECon w3 mb (S.last + 1) (fun y => if y = (S.last : Int) + 1 then some (some m, (b : Int)) else conF S.l mo y)) (hm : u.heap.size ≤ m) (hlb : u.heap.size ≤ lb) (hmx : MuxAt w3 m lb S.ids 0) :
    PoolH B w3 pb mb (fun x => if x = S.last + 1 then m else mo x) (fun x => if x = S.last + 1 then lb else lo x) (S.more b) := by
  have hne := h.box_ne
  have hlt := h.map.lt
  have hsz := hst.size
  have hold : ∀ c ∈ S.l, c.n ≠ S.last + 1 ∧ mo c.n < w.heap.size ∧ lo c.n < w.heap.size := fun c hc => ⟨by have := h.ok.low c hc; omega, (h.mux c hc).lt⟩
  have hcase : ∀ c ∈ (S.more b).l, c ∈ S.l ∨ c = ⟨S.last + 1, b, 0⟩ := fun c hc => by
    rcases List.mem_append.1 hc with hc | hc
    · exact .inl hc
    · exact .inr (by simpa using hc)
  refine ⟨h.ok.more b hl, Nat.le_trans h.base (Nat.le_trans hsz hst3.size), (hst3.block pb (box_lt eb) hne).trans eb, ?_, fun c hc => ?_, fun c hc d hd hcd => ?_, fun c hc => ?_, h.low.1, h.low.2.1, fun c hc => ?_⟩
  · refine em3.congr (fun i _ => ?_)
    have e1 : ((S.last + 1 : Nat) : Int) = (S.last : Int) + 1 := by omega
    unfold conF
    rw [more_find S b h.ok i, e1]
    by_cases hi : i = (S.last : Int) + 1
    · rw [if_pos hi, if_pos hi]
      simp
    · rw [if_neg hi, if_neg hi]
      cases hf : findC S.l i with
      | none => rfl
      | some c => simp [(hold c (find_some hf).1).1]
  · rcases hcase c hc with hc | rfl
    · obtain ⟨a1, a2, a3⟩ := hold c hc
      obtain ⟨n1, n2, n3⟩ := h.mo_ne hc
      simp only [if_neg a1]
      exact ((h.mux c hc).step hst n2 n3).step hst3 n1 (h.lne c hc)
    · simp only [if_true]
      exact hmx
  · rcases hcase c hc with hc | rfl
    · obtain ⟨a1, a2, a3⟩ := hold c hc
      rcases hcase d hd with hd | rfl
      · obtain ⟨b1, b2, b3⟩ := hold d hd
        simp only [if_neg a1, if_neg b1]
        exact h.apart c hc d hd hcd
      · simp only [if_neg a1, if_true]
        omega
    · rcases hcase d hd with hd | rfl
      · obtain ⟨b1, b2, b3⟩ := hold d hd
        simp only [if_neg b1, if_true]
        omega
      · exact absurd rfl hcd
  · rcases hcase c hc with hc | rfl
    · obtain ⟨a1, a2, a3⟩ := hold c hc
      simp only [if_neg a1]
      exact h.lne c hc
    · simp only [if_true]
      omega
  · have hB := h.base
    rcases hcase c hc with hc | rfl
    · obtain ⟨a1, a2, a3⟩ := hold c hc
      simp only [if_neg a1]
      exact h.low.2.2 c hc
    · simp only [if_true]
      omega

set_option maxRecDepth 100000 in
set_option maxHeartbeats 4000000 in
theorem popen_new (B : Nat) (w : World) (pb : Nat) (S : Pl) (h : PoolAt B w pb S) (b : Nat) (hb : b < S.bk) (M : List Cn) (hw : Whole S b M) (hch : chooseN (kOf S.l) S.cs (M.map (·.n)) = 0) (hlast : S.last < 1000) :
    Calls Try.prog 7 #[.pointer (some ⟨pb, 0, none⟩), .int .i64 (b : Int), .slice none 0 0, .string (bs [])] w fun e w' => e = .returned (.tuple #[.int .i64 ((S.last : Int) + 1), .int .i64 1, .nilIface]) ∧ PoolAt B w' pb { S.more b with l := bump (S.more b).l (S.last + 1) } ∧ Below B w w' := by
  have hT := to_whole B w pb S h b M hw
  have hC := fun w1 (W1 : Below w.heap.size w w1) a cap hr => pchoose_any B w1 pb S (h.keep W1) M hw.mem.1 (by obtain ⟨_, _, _, h⟩ := h; exact Nat.le_trans hw.mem.2 h.ok.len) a cap hr
  rw [hch] at hC
  have HC := Lib.hid hC
  clear hC
  obtain ⟨mb, mo, lo, h⟩ := h
  have h8 := h.ok.ids
  clear hch hw
  have c0 := box_cells h.box 0
  have z := box_lt h.box
  have q1 : decide ((b : Int) < 0) = false := decide_eq_false (by omega)
  have q2 : decide ((b : Int) ≥ (S.bk : Int)) = false := decide_eq_false (by omega)
  have q3 : decide ((S.bk : Int) ≤ (b : Int)) = false := decide_eq_false (by omega)
  go_enter Try.func7, Try.ntmps7
  go_wp2_with fail
  refine hT.mono ?_
  rintro e w1 ⟨a, cap, rfl, W1, hr⟩
  go_wp2_with fail
  refine (HC.out w1 W1 a cap hr).mono ?_
  rintro e w2 ⟨rfl, W2⟩
  have W12 := below_later W1 W2
  have h2 := h.keep W12
  have c4 := box_cells h2.box 4
  have f4 := box_free h2.box 4
  have z2 := box_lt h2.box
  clear hr
  go_wp2_with fail
  have hst : Only pb w2 (w2.setCell ⟨pb, 4, none⟩ (.int .i64 ((S.last : Int) + 1))) := only_set w2 4 _
  have eb : (w2.setCell ⟨pb, 4, none⟩ (.int .i64 ((S.last : Int) + 1))).heap[pb]? = some (poolObj S.bk S.cs S.ids mb (S.last + 1)) := set_box h2.box _
  generalize hu : w2.setCell ⟨pb, 4, none⟩ (.int .i64 ((S.last : Int) + 1)) = u at *
  clear hu c4 f4
  have hne := h2.box_ne
  have em : GMap ECon u mb S.last (conF S.l mo) := h2.map.step hst (fun e => hne e.symm)
  have hwf : (Lit.int .i64 ((S.last : Int) + 1)).wf = true := wf_small (by omega) (by omega)
  have hS : ∀ wx, Rg.Step (fun k => ∃ j, j = 12 ∧ k = mb) u wx → wx.cell? ⟨pb, 2, none⟩ = some (.int .i64 (S.ids : Int)) ∧ wx.cell? ⟨pb, 3, none⟩ = some (.map (some mb)) ∧ pb < wx.heap.size := by
    intro wx hs
    have h1 := (hs.block pb (box_lt eb) (by rintro ⟨_, _, h⟩; exact hne h)).trans eb
    exact ⟨box_cells h1 2, box_cells h1 3, box_lt h1⟩
  refine Rg.region1 79 [.val ?_, .val ?_, .val ?_, .val ?_, .val ?_, .val ?_, .val ?_, .val ?_, .val ?_, .any (Rg.QV (KMux S.ids)), .val ?_, .any (Rg.QV (KCon S.ids b)), .any (Rg.GMade ECon mb (S.last + 1) (conF S.l mo) ((S.last : Int) + 1) (KConE S.ids b u.heap.size))] [[], [], [], [], [], [], [], [], [], [], [], [9], [11]] (fun j k => j = 12 ∧ k = mb) (by kernel_rfl) (by decide +kernel) (by simp) rfl (by simp) ?hstab ?hown ?hdis ?hchain ?hend
  case hstab => exact Rg.stable_val (Rg.stable_val (Rg.stable_val (Rg.stable_val (Rg.stable_val (Rg.stable_val (Rg.stable_val (Rg.stable_val (Rg.stable_val (Rg.stable_qv (Rg.stable_val (Rg.stable_qv (Rg.stable_gmade (Rg.stable_nil)))))))))))))
  case hchain =>
    intro vs
    -- 0: slot 43 := Op.move t0
    refine Rg.Chain.pure rfl (fun w => by go_simp; (try go_ints); with_reducible rfl) ?_
    simp only [Act.put, List.setIfInBounds_toArray, List.set_cons_succ, List.set_cons_zero]
    -- 1: slot 44 := Op.nilCheck t43
    refine Rg.Chain.pure rfl (fun w => by go_simp; (try go_ints); with_reducible rfl) ?_
    simp only [Act.put, List.setIfInBounds_toArray, List.set_cons_succ, List.set_cons_zero]
    -- 2: slot 45 := Op.fieldAddr 43 t44 3
    refine Rg.Chain.pure rfl (fun w => by go_simp; (try go_ints); with_reducible rfl) ?_
    simp only [Act.put, List.setIfInBounds_toArray, List.set_cons_succ, List.set_cons_zero]
    -- 3: slot 46 := Op.load 41 t45
    refine Rg.Chain.read rfl (fun wx hs => by obtain ⟨q0, q1, q2⟩ := hS wx hs; go_simp; with_reducible rfl) ?_
    simp only [Act.put, List.setIfInBounds_toArray, List.set_cons_succ, List.set_cons_zero]
    -- 4: slot 47 := Op.move t11
    refine Rg.Chain.pure rfl (fun w => by go_simp; (try go_ints); with_reducible rfl) ?_
    simp only [Act.put, List.setIfInBounds_toArray, List.set_cons_succ, List.set_cons_zero]
    -- 5: slot 48 := Op.move t0
    refine Rg.Chain.pure rfl (fun w => by go_simp; (try go_ints); with_reducible rfl) ?_
    simp only [Act.put, List.setIfInBounds_toArray, List.set_cons_succ, List.set_cons_zero]
    -- 6: slot 49 := Op.nilCheck t48
    refine Rg.Chain.pure rfl (fun w => by go_simp; (try go_ints); with_reducible rfl) ?_
    simp only [Act.put, List.setIfInBounds_toArray, List.set_cons_succ, List.set_cons_zero]
    -- 7: slot 50 := Op.fieldAddr 43 t49 2
    refine Rg.Chain.pure rfl (fun w => by go_simp; (try go_ints); with_reducible rfl) ?_
    simp only [Act.put, List.setIfInBounds_toArray, List.set_cons_succ, List.set_cons_zero]
    -- 8: slot 51 := Op.load 3 t50
    refine Rg.Chain.read rfl (fun wx hs => by obtain ⟨q0, q1, q2⟩ := hS wx hs; go_simp; with_reducible rfl) ?_
    simp only [Act.put, List.setIfInBounds_toArray, List.set_cons_succ, List.set_cons_zero]
    -- 9: slot 52 := Op.call ( value (Operand.func 17), args := #[t51], argTypes := #[3] )
    refine Rg.Chain.callAny ?_ ?_ rfl (fun w => ?_) (fun wx hs => ?_) ?_
    rotate_left 2
    · go_simp; (try go_ints); constructor <;> with_reducible rfl
    · exact (mnew_any S.ids h8.1 h8.2 wx).mono (fun e w' h => by obtain ⟨m, lb, h1, h2, h3, h4, h5⟩ := h; exact ⟨_, h1, ⟨m, lb, rfl, ⟨h2, h4.lt.1⟩, ⟨h3, h4.lt.2⟩, h4⟩, h5⟩)
    simp only [Act.put, List.setIfInBounds_toArray, List.set_cons_succ, List.set_cons_zero]
    -- 10: slot 53 := Op.move t1
    refine Rg.Chain.pure rfl (fun w => by go_simp; (try go_ints); with_reducible rfl) ?_
    simp only [Act.put, List.setIfInBounds_toArray, List.set_cons_succ, List.set_cons_zero]
    -- 11: slot 54 := Op.build 47 #[(0, t52), (1, t53)]
    refine Rg.Chain.mades 9 rfl rfl (by decide) (Rg.only 11 9 (by decide)) (by decide) (fun F w hp => by obtain ⟨m, lb, h1, h2, h3, h4⟩ := hp; exact ⟨.agg #[.pointer (some ⟨m, 0, none⟩), .int .i64 (b : Int)], by (simp only [h1]; have hcb := con_build m b w; go_simp; try with_reducible rfl), ⟨m, lb, rfl, h2, h3, h4⟩⟩) ?_
    simp only [Act.put, List.setIfInBounds_toArray, List.set_cons_succ, List.set_cons_zero]
    -- 12: slot none := Op.mapUpdate 41 t46 t47 t54
    refine Rg.Chain.gmap 11 _ _ _ rfl rfl rfl Try.underlying41 rfl em (by unfold maxLen; omega) hwf ⟨rfl, rfl⟩ rfl (by decide) (Rg.only 12 11 (by decide)) (by decide) (by rintro j g ⟨rfl, _⟩; rfl) rfl (fun F w hp hF => by obtain ⟨m, lb, h1, h2, h3, h4⟩ := hp; exact ⟨(some m, (b : Int)), h1, ⟨m, lb, rfl, hF _ h2, hF _ h3, h2, h3, h4⟩⟩) ?_
    simp only [Act.put]
    exact Rg.Chain.nil
  case hown => rintro j k ⟨_, rfl⟩; exact em.lt
  case hdis => rintro i j k ⟨rfl, _⟩ ⟨rfl, _⟩; rfl
  case hend =>
    intro vs F w3 hE
    have f12 := hE.fact 12 _ (Rg.kept 12 (by decide)) rfl
    have hst3 : Only mb u w3 := hE.step.mono (fun k _ hk => by obtain ⟨_, _, h⟩ := hk; exact h)
    obtain ⟨x, G, em3, ⟨m, lb, rfl, hm1, hm2, _, _, hmx⟩, _⟩ := f12
    have h3 := h2.added b hlast hst eb hst3 em3 hm1 hm2 hmx
    have hc : (⟨S.last + 1, b, 0⟩ : Cn) ∈ (S.more b).l := by simp
    have W3 : Below B w w3 := ((W12.mono h.base).trans (only_base hst h.low.1 h2.base)).trans (only_base hst3 h.low.2.1 (Nat.le_trans h2.base hst.size))
    have hlk := h3.look hc
    have e1 : ((S.last + 1 : Nat) : Int) = (S.last : Int) + 1 := by omega
    dsimp only at hlk
    rw [e1, if_pos rfl] at hlk
    have c3 := box_cells h3.box 3
    have z3 := box_lt h3.box
    have hf0 := con_field0
    have hgo := fun h => (mopen_ok w3 m lb S.ids 0 h8.2 h8.1 h)
    have HG := Lib.hid hgo
    clear hE hS hst3 hst em3 hgo
    simp only [Rg.finalAct, Rg.slot_val, Rg.slot_any, Act.put, List.setIfInBounds_toArray, List.set_cons_succ, List.set_cons_zero]
    generalize vs 9 = v9
    generalize vs 11 = v11
    generalize vs 12 = v12
    go_wp2_with fail
    refine (HG.out hmx).mono ?_
    rintro e w4 ⟨rfl, hm4, hon⟩
    go_wp2_with fail
    refine (is_nil 16 _).mono ?_
    rintro e w5 ⟨rfl, rfl⟩
    go_wp2_with fail
    refine (is_nil 18 _).mono ?_
    rintro e w5 ⟨rfl, rfl⟩
    go_wp2_with fail
    go_ret3
    have h4 := h3.opened hc h8.1 (by simpa using hm4) (by simpa using hon)
    exact ⟨by simp, ⟨_, _, _, h4⟩, W3.trans (only_base hon (by have := h3.low.2.2 _ hc; simpa using this.2) h3.base)⟩
end Go.Proofs.Ytihfibelklhkbaa
