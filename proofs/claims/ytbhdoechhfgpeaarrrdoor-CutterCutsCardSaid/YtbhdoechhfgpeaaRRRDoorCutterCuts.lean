/- conduitlaw5.CutterCuts answers true at all arguments, where the package errors' variable holds what it was given. Condition: that. -/
import Derived.Test.YtbhdoechhfgpeaaRRRDoorCutterCutsPlain
import Derived.Test.YtbhdoechhfgpeaaRRRDoorCutterStops
import Derived.Test.YtbhdoechhfgpeaaRRRDoorOpenB
namespace Go.Proofs.YtbhdoechhfgpeaaRRRDoor
open Go.RowKit

theorem allBytes_le3 : ∀ (l : List Rec), (∀ r ∈ l, r.Is ∧ r.c.length ≤ 300) → (allBytes l).length ≤ 600 * l.length
  | [], _ => by simp [allBytes]
  | r :: l, h => by
    have h1 := h r (by simp)
    have h2 := allBytes_le3 l (fun q hq => h q (by simp [hq]))
    have h3 := bytes_length h1.1
    have h4 : r.p ≤ 255 := h1.1.2.2.2.2.2.2
    rw [allBytes_cons, List.length_append, List.length_cons]
    omega

set_option maxRecDepth 100000 in
set_option maxHeartbeats 8000000 in
theorem cc_any (l : List Rec) (v : Value) (more : Bs) (at_ : List UInt8) (va : Value) (w : World) (hR : Reads w v 4 l.length (recCells l)) (hF : ∀ r ∈ l, r.Fit) (hm : more.length ≤ 9223372036854775807) (hRa : Reads w va 1 at_.length (at_.flatMap fun b => [bv b])) (hg : w.cell? ⟨0, 0, none⟩ = some errTypeV) :
    Calls Tryd.prog 3 #[v, .string (bs more), va] w fun e w' => e = .returned (.bool true) ∧ Below w.heap.size w w' := by
  have hgl := World.block_lt_of_cell? w _ hg
  simp only at hgl
  have hg' : ∀ w', Below w.heap.size w w' → w'.cell? ⟨0, 0, none⟩ = some errTypeV := fun w' hb => by rw [hb.cell (World.block_lt_of_cell? w _ hg)]; exact hg
  have HG := Lib.hid hg'
  clear hg hg'
  have hR0 := hR
  have hlm := hR.2.1
  have hla := hRa.2.1
  unfold maxLen at hlm hla
  obtain ⟨a, cap, rfl, h⟩ := hR.opened (fun _ _ => rfl) (by decide)
  obtain ⟨a2, cap2, rfl, h2⟩ := hRa.opened (fun _ _ => rfl) (by decide)
  have HH := Lib.hid h
  have HH2 := Lib.hid h2
  have HF := Lib.hid hF
  have HRl := Lib.hid (fun w' (hb : Below w.heap.size w w') => hR0.later (by decide) hb)
  clear hR hR0 hRa h h2 hF
  go_enter Tryd.func3, Tryd.ntmps3
  go_wp2_with fail
  refine (known5 _ (HG.out _ (Below.refl _ _))).mono ?_
  rintro e w1 ⟨rfl, W1⟩
  by_cases h10 : 10 < l.length
  · have q1 : decide ((10 : Int) < (l.length : Int)) = true := by simp; omega
    go_wp2_with fail
    go_ret
    exact ⟨rfl, W1⟩
  have q1 : decide ((10 : Int) < (l.length : Int)) = false := by simp; omega
  by_cases h7 : 7 < more.length
  · have q2 : decide ((7 : Int) < (more.length : Int)) = true := by simp; omega
    go_wp2_with fail
    go_ret
    exact ⟨rfl, W1⟩
  have q2 : decide ((7 : Int) < (more.length : Int)) = false := by simp; omega
  go_wp2_with fail
  clear q1 q2
  go_loopw [7, 8] (fun t i wr => ∃ k : Nat, k ≤ l.length ∧ i = .int .i64 k ∧ t = .string (bs (allBytes (l.take k))) ∧ Below w.heap.size w wr ∧ ∀ r ∈ l.take k, r.Is ∧ r.c.length ≤ 300) (fun _ i _ => l.length - (intOf i).toNat)
  case atStart => exact ⟨0, Nat.zero_le _, rfl, rfl, W1, by simp⟩
  case round =>
    obtain ⟨k, hk, rfl, rfl, hW, hall⟩ := hrel
    by_cases hlt : k < l.length
    · obtain ⟨b, off, rfl, hbl, hc⟩ := HH.out (by omega)
      have c0 : w.cell? ⟨b, off + k * 4, none⟩ = some (.int .i64 l[k].t) := hc k hlt 0 _ rfl
      have c1 : w.cell? ⟨b, off + k * 4 + 1, none⟩ = some (.int .i64 l[k].id) := hc k hlt 1 _ rfl
      have c2 : w.cell? ⟨b, off + k * 4 + 2, none⟩ = some (.string (bs l[k].c)) := hc k hlt 2 _ rfl
      have c3 : w.cell? ⟨b, off + k * 4 + 3, none⟩ = some (.int .i64 l[k].p) := hc k hlt 3 _ rfl
      rw [← hW.cell hbl] at c0 c1 c2 c3
      have hz := Nat.lt_of_lt_of_le hbl hW.size
      have hfit := (HF.out _ (List.getElem_mem hlt)).2.2.1
      have hle := allBytes_le3 (l.take k) hall
      rw [List.length_take] at hle
      have hnx := allBytes_take l k hlt
      have htk : l.take (k + 1) = l.take k ++ [l[k]] := List.take_succ_eq_append_getElem hlt
      generalize l[k] = r at *
      have hI := fun w => ris_any r w hfit
      have hBy := fun w => rbytes_any r w hfit
      by_cases hIs : r.Is ∧ r.c.length ≤ 300
      · obtain ⟨hIs, h1⟩ := hIs
        have hbl2 := bytes_length hIs
        have hp : r.p ≤ 255 := hIs.2.2.2.2.2.2
        have hp0 : 0 ≤ r.p := hIs.2.2.2.2.2.1
        rw [decide_eq_true hIs] at hI
        have hnew : ∀ q ∈ l.take (k + 1), q.Is ∧ q.c.length ≤ 300 := by
          intro q hq
          rw [htk] at hq
          rcases List.mem_append.1 hq with h | h
          · exact hall q h
          · simp at h; subst h; exact ⟨hIs, h1⟩
        have hrb : r.bytes.length ≤ 600 := by omega
        have hzz : (allBytes (l.take k)).length ≤ 6000 := by
          have : min k l.length ≤ 10 := by omega
          omega
        clear hall hc htk hle hbl2 hp hp0 hIs
        generalize r.bytes = X at *
        generalize allBytes (l.take k) = Z at *
        obtain ⟨rt, ri, rc, rp⟩ := r
        simp only at c0 c1 c2 c3 h1 hfit
        have q5 : decide ((300 : Int) < (rc.length : Int)) = false := by simp; omega
        have HI := Lib.hid (show ∀ w, Calls Tryd.prog 8 #[.agg #[.int .i64 rt, .int .i64 ri, .string (bs rc), .int .i64 rp]] w fun e w' => e = .returned (.bool true) ∧ Below w.heap.size w w' from hI)
        have HBy := Lib.hid (show ∀ w, Calls Tryd.prog 9 #[.agg #[.int .i64 rt, .int .i64 ri, .string (bs rc), .int .i64 rp]] w fun e w' => e = .returned (.string (bs X)) ∧ Below w.heap.size w w' from hBy)
        have HNX := Lib.hid hnx
        have HNW := Lib.hid hnew
        clear hI hBy hnx hnew
        go_wp2_with fail
        refine (HI.out _).mono ?_
        rintro e w3 ⟨rfl, hb⟩
        rw [← hb.cell hz] at c0 c1 c2 c3
        have W3 := below_later hW hb
        replace hz := Nat.lt_of_lt_of_le hz hb.size
        clear hb hW
        go_wp2_with fail
        refine (HBy.out _).mono ?_
        rintro e w4 ⟨rfl, hb⟩
        have W4 := below_later W3 hb
        clear hb W3 c0 c1 c2 c3
        go_wp2_with fail
        go_roundw
        case rel => exact ⟨k + 1, by omega, by go_num, by rw [HNX.out], W4, HNW.out⟩
        case measure => simp [intOf]; omega
      · clear hall hc htk hle hnx hBy
        generalize hd : decide r.Is = D at hI
        obtain ⟨rt, ri, rc, rp⟩ := r
        simp only at c0 c1 c2 c3 hfit
        have HI := Lib.hid (show ∀ w, Calls Tryd.prog 8 #[.agg #[.int .i64 rt, .int .i64 ri, .string (bs rc), .int .i64 rp]] w fun e w' => e = .returned (.bool D) ∧ Below w.heap.size w w' from hI)
        clear hI
        cases D
        · clear hd hIs
          go_wp2_with fail
          refine (HI.out _).mono ?_
          rintro e w3 ⟨rfl, hb⟩
          go_wp2_with fail
          go_ret
          exact ⟨rfl, below_later hW hb⟩
        · have h1 : ¬ rc.length ≤ 300 := fun h => hIs ⟨of_decide_eq_true hd, h⟩
          have q5 : decide ((300 : Int) < (rc.length : Int)) = true := by simp; omega
          clear hd hIs
          go_wp2_with fail
          refine (HI.out _).mono ?_
          rintro e w3 ⟨rfl, hb⟩
          rw [← hb.cell hz] at c0 c1 c2 c3
          have W3 := below_later hW hb
          replace hz := Nat.lt_of_lt_of_le hz hb.size
          clear hb hW
          go_wp2_with fail
          go_ret
          exact ⟨rfl, W3⟩
    · obtain rfl : k = l.length := by omega
      rw [List.take_length] at hall
      rw [List.take_length]
      have hSl := allBytes_le3 l hall
      have hS60 : (allBytes l).length ≤ 6000 := by omega
      have hrun := cuts_whole l more (fun r hr => (hall r hr).1) (by omega)
      clear hall hSl
      generalize allBytes l = S at *
      have harm : more = [] ∨ (0 < more.length ∧ at0 more 0 = 1) ∨ (0 < more.length ∧ ¬ at0 more 0 = 1) := by
        by_cases hm0 : more = []
        · exact .inl hm0
        · have hml : 0 < more.length := List.length_pos_iff.2 hm0
          by_cases h1 : at0 more 0 = 1
          · exact .inr (.inl ⟨hml, h1⟩)
          · exact .inr (.inr ⟨hml, h1⟩)
      rcases harm with hm0 | ⟨hml, h1⟩ | ⟨hml, h1⟩
      case' inl =>
        subst hm0
        rw [show restB [] = [] from rfl, List.append_nil] at hrun
        have HRun := Lib.hid hrun
        clear hrun
        go_wp2_with fail
        obtain ⟨M, hM⟩ : ∃ M : Bs, M = [] := ⟨_, rfl⟩
        rw [← hM] at HRun
        have hTl : S.length ≤ 6007 := by omega
        generalize S = T at *
      case' inr.inl =>
        have qh : (at0 more 0 != 1) = false := by simpa using h1
        have hrb : restB more = more := if_neg (fun x => x.2 h1)
        rw [hrb] at hrun
        have HRun := Lib.hid hrun
        clear hrun h1 hrb
        go_wp2_with fail
        have hTl : (S ++ more).length ≤ 6007 := by rw [List.length_append]; omega
        generalize S ++ more = T at *
        obtain ⟨M, hM⟩ : ∃ M : Bs, M = more := ⟨_, rfl⟩
        rw [← hM] at HRun
      case' inr.inr =>
        have qh : (at0 more 0 != 1) = true := by simpa using h1
        have hrb : restB more = [] := if_pos ⟨List.ne_nil_of_length_pos hml, h1⟩
        rw [hrb, List.append_nil] at hrun
        have HRun := Lib.hid hrun
        clear hrun h1 hrb
        go_wp2_with fail
        obtain ⟨M, hM⟩ : ∃ M : Bs, M = [] := ⟨_, rfl⟩
        rw [← hM] at HRun
        have hTl : S.length ≤ 6007 := by omega
        generalize S = T at *
      all_goals
        have hS0 : (cutRun 65535 T).2.1 = 0 := by rw [HRun.out]
        have hA := fun b w hb hg hne => cfeed_any b [] T 65535 false w hb hg hne (by simp only [List.length_nil]; omega)
        rw [show cutFeed 65535 false [] T = cutRun 65535 T from rfl, HRun.out] at hA
        simp only [errV_zero] at hA
        have HA := Lib.hid hA
        have HM := Lib.hid hM
        clear hA hM
        refine (cnew_any 65535 _).mono ?_
        rintro e w2 ⟨rfl, hw2⟩
        have bA : w2.heap[wr.heap.size]? = some (cutObj [] 65535 false) := by rw [hw2]; exact heap_alloc_new wr _
        have W2 : Below w.heap.size w w2 := by rw [hw2]; exact below_later hW (below_alloc _ _)
        have hB1 := hW.size
        have z1 := box_lt bA
        clear hw2 hW
        generalize wr.heap.size = B1 at *
        go_wp2_with fail
        refine (cnew_any 65535 _).mono ?_
        rintro e w3 ⟨rfl, hw3⟩
        have bB : w3.heap[w2.heap.size]? = some (cutObj [] 65535 false) := by rw [hw3]; exact heap_alloc_new w2 _
        replace bA : w3.heap[B1]? = some (cutObj [] 65535 false) := by rw [hw3]; exact keep_new _ bA
        have W3 : Below w.heap.size w w3 := by rw [hw3]; exact below_later W2 (below_alloc _ _)
        have hB2 := W2.size
        have z2 := box_lt bB
        clear hw3 W2
        generalize w2.heap.size = B2 at *
        have hne12 : B1 ≠ B2 := by omega
        go_wp2_with fail
        refine (HA.out _ _ bA (HG.out _ W3) (by omega)).mono ?_
        rintro e w4 ⟨vx, rfl, ox, fA, hon⟩
        have fB := only_kept hon bB (by omega)
        have W4 : Below w.heap.size w w4 := W3.trans (only_base hon hB1 W3.size)
        have z4 : B2 < w4.heap.size := box_lt fB
        have z3 := hon.size
        replace ox := own_low ox (C := B2 + 1) z2
        clear hon bA bB W3 HA
        go_wp2_with fail
        go_loopw [7, 13, 14] (fun r y i wq => ∃ (c j : Nat) (Y : List Rec) (wt : Bs), r = .string (bs (T.drop c)) ∧ i = .int .i64 j ∧ j ≤ c ∧ c ≤ T.length ∧ cutRun 65535 (T.take c) = (Y, 0, wt, false) ∧ wt.length ≤ T.length ∧ wq.ownsRow w4.heap.size 27 4 y Y.length (recCells Y) ∧ wq.heap[B2]? = some (cutObj wt 65535 false) ∧ Only B2 w4 wq) (fun r _ _ _ => textLen r)
        case atStart => exact ⟨0, 0, [], [], rfl, rfl, Nat.le_refl _, Nat.zero_le _, cutRun_nil _, Nat.zero_le _, ⟨rfl, .inl ⟨rfl, rfl⟩⟩, fB, Rg.Step.refl _ _⟩
        case round =>
          obtain ⟨c, j, Y, wt, rfl, rfl, hjc, hcl, hcr, hwl, oY, gB, hon⟩ := hrel
          by_cases hlt : c < T.length
          · by_cases hat : at_.length = 0
            · have q5 : decide ((0 : Int) < (at_.length : Int)) = false := decide_eq_false (by omega)
              have q6 : ¬ 0 < at_.length := by omega
              have HAt := Lib.hid hat
              clear hat
              obtain ⟨Z, w', p1, p2, p3, p4⟩ := cuts_step T hS0 c (1) Y wt hcr
              have hB := fun w hb hg hne => cfeed_any B2 wt ((T.drop c).take (1)) 65535 false w hb hg hne (by rw [List.length_take, List.length_drop]; omega)
              rw [p1] at hB
              simp only [errV_zero] at hB
              have HB := Lib.hid hB
              have hdd : (T.drop c).drop (1) = T.drop (c + 1) := List.drop_drop
              have HDD := Lib.hid hdd
              have HP2 := Lib.hid p2
              have hyl : Y.length ≤ T.length := by
                have h := cuts_le 65535 (T.take c)
                rw [hcr, List.length_take] at h
                simp only at h
                omega
              clear hB hdd p1 p2
              have hsx : 1 ≤ (T.drop c).length := by rw [List.length_drop]; omega
              have hsxI : (1 : Int) ≤ ((T.drop c).length : Int) := by omega
              have hsx2 : (T.drop c).length = T.length - c := List.length_drop
              have HSX := Lib.hid hsx2
              clear hsx2
              generalize T.drop c = sx at *
              go_wp2_with fail
              refine (HB.out _ gB (HG.out _ (W4.trans (only_base hon hB2 W4.size))) (by omega)).mono ?_
              rintro e w5 ⟨vz, rfl, oZ, gB5, hon5⟩
              have hon6 := only_trans hon hon5
              have hYlt := fun k hk => (oY.lt k hk).2
              have hzq := hon.size
              replace oY := own_only oY hon5 z4
              clear hon gB hon5
              go_wp2_with fail
              have hYlt2 := hYlt
              have hz5 : w4.heap.size ≤ w5.heap.size := hon6.size
              have hown' : ∀ (j : Nat) (k : Nat), ((j = 0 ∧ u13.ownBlock = some k) ∨ (j = 1 ∧ vz.ownBlock = some k)) → w4.heap.size ≤ k := by
                rintro j k (⟨_, h⟩ | ⟨_, h⟩)
                · exact (oY.lt k h).1
                · exact Nat.le_trans hzq (oZ.lt k h).1
              refine Rg.region1 137 [.any (Rg.Row 27 4 Y.length (recCells Y)), .any (Rg.Row 27 4 Z.length (recCells Z)), .any (Rg.Row 27 4 (Y.length + Z.length) (recCells Y ++ recCells Z)), .val ?_, .val ?_, .val ?_, .any (Rg.Row 27 4 (Y.length + Z.length) (recCells Y ++ recCells Z)), .val ?_] [[], [], [0], [], [], [], [2]] (fun j k => (j = 0 ∧ u13.ownBlock = some k) ∨ (j = 1 ∧ vz.ownBlock = some k)) (by kernel_rfl) (by decide +kernel) (by simp) rfl (by simp) ?hstab ?hown ?hdis ?hchain ?hend
              case hstab => exact Rg.stable_row (Rg.stable_row (Rg.stable_row (Rg.stable_val (Rg.stable_val (Rg.stable_val (Rg.stable_row (Rg.stable_val (Rg.stable_nil))))))))
              case hchain =>
                intro vs
                -- 0: slot 105 := Op.move t13
                refine Rg.Chain.start (Rg.ownsRow_zero oY) (fun k hk => .inl ⟨rfl, hk⟩) rfl (fun w => by go_simp) ?_
                simp only [Act.put, List.setIfInBounds_toArray, List.set_cons_succ, List.set_cons_zero]
                -- 1: slot 106 := Op.move t16
                refine Rg.Chain.start (Rg.ownsRow_zero oZ) (fun k hk => .inr ⟨rfl, hk⟩) rfl (fun w => by go_simp) ?_
                simp only [Act.put, List.setIfInBounds_toArray, List.set_cons_succ, List.set_cons_zero]
                -- 2: slot 107 := Op.call ( builtin append, args := #[t105, t106], argTypes := #[22, 22] )
                obtain ⟨ti, hti, hzz, hsz, hby⟩ := inf_rec
                refine Rg.Chain.append 0 1 rfl 22 27 _ _ ti _ _ _ rfl rfl rfl (Tryd.underlying22) hti hzz hsz hby rfl (by decide) rfl rfl (by decide) (by decide) (Rg.only 2 0 (by decide)) (Rg.only 2 1 (by decide)) (by decide) (rec_one _) (by simp [maxLen]; omega) (by omega) ?_
                simp only [Act.put, List.setIfInBounds_toArray, List.set_cons_succ, List.set_cons_zero]
                -- 3: slot 108 := Op.move t7
                refine Rg.Chain.pure rfl (fun w => by go_simp; (try go_ints); with_reducible rfl) ?_
                simp only [Act.put, List.setIfInBounds_toArray, List.set_cons_succ, List.set_cons_zero]
                -- 4: slot 109 := Op.move t15
                refine Rg.Chain.pure rfl (fun w => by go_simp; (try go_ints); with_reducible rfl) ?_
                simp only [Act.put, List.setIfInBounds_toArray, List.set_cons_succ, List.set_cons_zero]
                -- 5: slot 110 := Op.slice 9 t108 (some t109) none none
                refine Rg.Chain.pure rfl (fun w => by go_simp; (try go_ints); with_reducible rfl) ?_
                simp only [Act.put, List.setIfInBounds_toArray, List.set_cons_succ, List.set_cons_zero]
                -- 6: slot 13 := Op.assign t107
                refine Rg.Chain.take 2 rfl rfl (by decide) (Rg.only 6 2 (by decide)) (by decide) (fun w => by go_simp) ?_
                simp only [Act.put, List.setIfInBounds_toArray, List.set_cons_succ, List.set_cons_zero]
                -- 7: slot 7 := Op.assign t110
                refine Rg.Chain.pure rfl (fun w => by go_simp; (try go_ints); with_reducible rfl) ?_
                simp only [Act.put, List.setIfInBounds_toArray, List.set_cons_succ, List.set_cons_zero]
                exact Rg.Chain.nil
              case hown =>
                rintro j k (⟨_, h⟩ | ⟨_, h⟩)
                · exact (oY.lt k h).2
                · exact (oZ.lt k h).2
              case hdis =>
                rintro i j k (⟨rfl, h⟩ | ⟨rfl, h⟩) (⟨rfl, h'⟩ | ⟨rfl, h'⟩)
                · rfl
                · have := hYlt2 k h; have := (oZ.lt k h').1; omega
                · have := hYlt2 k h'; have := (oZ.lt k h).1; omega
                · rfl
              case hend =>
                intro vs F w6 hE
                have hrow2 := Rg.end_row (B := w4.heap.size) hE (Rg.kept 6 (by decide)) rfl hz5 hown'
                have hb2 := Rg.step_from hE.step hz5 hown'
                clear hE hown'
                simp only [Rg.finalAct, Rg.slot_val, Rg.slot_any, Act.put, List.setIfInBounds_toArray, List.set_cons_succ, List.set_cons_zero]
                generalize vs 6 = v6 at hrow2 ⊢
                have gB6 : w6.heap[B2]? = some (cutObj w' 65535 false) := (hb2.block B2 z4).trans gB5
                have hon7 := only_then hon6 hb2
                go_wp2_with fail
                go_roundw
                case rel =>
                  refine ⟨c + 1, j + 1, Y ++ Z, w', by first | rw [HDD.out] | rw [← List.drop_one, HDD.out], by go_num, by omega, by omega, HP2.out, p3, ?_, gB6, hon7⟩
                  rw [recCells_append, List.length_append]
                  exact hrow2
                case measure => have := HSX.out; simp [textLen, bs_size]; omega
            · obtain ⟨b2, off2, rfl, hb2l, hc2⟩ := HH2.out (by omega)
              have hjm : j % at_.length < at_.length := Nat.mod_lt _ (by omega)
              have d0 : w.cell? ⟨b2, off2 + j % at_.length, none⟩ = some (bv at_[j % at_.length]) := by have := hc2 (j % at_.length) hjm 0 _ rfl; rwa [Nat.mul_one, Nat.add_zero] at this
              have hx0 : (0 : Int) ≤ (at_[j % at_.length].toNat : Int) ∧ (at_[j % at_.length].toNat : Int) < 256 := ⟨by omega, by have := at_[j % at_.length].toNat_lt; omega⟩
              rw [← W4.cell hb2l, ← only_cell hon (a := ⟨b2, off2 + j % at_.length, none⟩) (by show b2 < _; have := W4.size; omega) (by show b2 ≠ B2; omega)] at d0
              have hzd : b2 < wr.heap.size := by have := W4.size; have := hon.size; omega
              unfold bv at d0
              generalize (at_[j % at_.length].toNat : Int) = X at *
              obtain ⟨hX0, hX1⟩ := hx0
              have q5 : decide ((0 : Int) < (at_.length : Int)) = true := decide_eq_true (by omega)
              have hn0 : (at_.length : Int) ≠ 0 := by omega
              have hsx : 0 < (T.drop c).length := by rw [List.length_drop]; omega
              have hsx2 : (T.drop c).length = T.length - c := List.length_drop
              have HSX := Lib.hid hsx2
              have hjm2 : (j : Int) % (at_.length : Int) = ((j % at_.length : Nat) : Int) := by omega
              have m0 : 0 ≤ min ((T.drop c).length : Int) (X + 1) := by omega
              have m1 : min ((T.drop c).length : Int) (X + 1) ≤ ((T.drop c).length : Int) := by omega
              have hK : 1 ≤ (min ((T.drop c).length : Int) (X + 1)).toNat ∧ (min ((T.drop c).length : Int) (X + 1)).toNat ≤ (T.drop c).length := by omega
              have HK := Lib.hid hK
              obtain ⟨Z, w', p1, p2, p3, p4⟩ := cuts_step T hS0 c ((min ((T.drop c).length : Int) (X + 1)).toNat) Y wt hcr
              have hB := fun w hb hg hne => cfeed_any B2 wt ((T.drop c).take ((min ((T.drop c).length : Int) (X + 1)).toNat)) 65535 false w hb hg hne (by rw [List.length_take, List.length_drop]; omega)
              rw [p1] at hB
              simp only [errV_zero] at hB
              have HB := Lib.hid hB
              have hdd : (T.drop c).drop ((min ((T.drop c).length : Int) (X + 1)).toNat) = T.drop (c + (min ((T.drop c).length : Int) (X + 1)).toNat) := List.drop_drop
              have HDD := Lib.hid hdd
              have HP2 := Lib.hid p2
              have hyl : Y.length ≤ T.length := by
                have h := cuts_le 65535 (T.take c)
                rw [hcr, List.length_take] at h
                simp only at h
                omega
              clear hB hdd p1 p2
              clear hsx2 hc2 hK
              generalize j % at_.length = jj at *
              generalize T.drop c = sx at *
              go_wp2_with fail
              refine (HB.out _ gB (HG.out _ (W4.trans (only_base hon hB2 W4.size))) (by omega)).mono ?_
              rintro e w5 ⟨vz, rfl, oZ, gB5, hon5⟩
              have hon6 := only_trans hon hon5
              have hYlt := fun k hk => (oY.lt k hk).2
              have hzq := hon.size
              replace oY := own_only oY hon5 z4
              clear hon gB hon5
              go_wp2_with fail
              have hYlt2 := hYlt
              have hz5 : w4.heap.size ≤ w5.heap.size := hon6.size
              have hown' : ∀ (j : Nat) (k : Nat), ((j = 0 ∧ u13.ownBlock = some k) ∨ (j = 1 ∧ vz.ownBlock = some k)) → w4.heap.size ≤ k := by
                rintro j k (⟨_, h⟩ | ⟨_, h⟩)
                · exact (oY.lt k h).1
                · exact Nat.le_trans hzq (oZ.lt k h).1
              refine Rg.region1 137 [.any (Rg.Row 27 4 Y.length (recCells Y)), .any (Rg.Row 27 4 Z.length (recCells Z)), .any (Rg.Row 27 4 (Y.length + Z.length) (recCells Y ++ recCells Z)), .val ?_, .val ?_, .val ?_, .any (Rg.Row 27 4 (Y.length + Z.length) (recCells Y ++ recCells Z)), .val ?_] [[], [], [0], [], [], [], [2]] (fun j k => (j = 0 ∧ u13.ownBlock = some k) ∨ (j = 1 ∧ vz.ownBlock = some k)) (by kernel_rfl) (by decide +kernel) (by simp) rfl (by simp) ?hstab ?hown ?hdis ?hchain ?hend
              case hstab => exact Rg.stable_row (Rg.stable_row (Rg.stable_row (Rg.stable_val (Rg.stable_val (Rg.stable_val (Rg.stable_row (Rg.stable_val (Rg.stable_nil))))))))
              case hchain =>
                intro vs
                -- 0: slot 105 := Op.move t13
                refine Rg.Chain.start (Rg.ownsRow_zero oY) (fun k hk => .inl ⟨rfl, hk⟩) rfl (fun w => by go_simp) ?_
                simp only [Act.put, List.setIfInBounds_toArray, List.set_cons_succ, List.set_cons_zero]
                -- 1: slot 106 := Op.move t16
                refine Rg.Chain.start (Rg.ownsRow_zero oZ) (fun k hk => .inr ⟨rfl, hk⟩) rfl (fun w => by go_simp) ?_
                simp only [Act.put, List.setIfInBounds_toArray, List.set_cons_succ, List.set_cons_zero]
                -- 2: slot 107 := Op.call ( builtin append, args := #[t105, t106], argTypes := #[22, 22] )
                obtain ⟨ti, hti, hzz, hsz, hby⟩ := inf_rec
                refine Rg.Chain.append 0 1 rfl 22 27 _ _ ti _ _ _ rfl rfl rfl (Tryd.underlying22) hti hzz hsz hby rfl (by decide) rfl rfl (by decide) (by decide) (Rg.only 2 0 (by decide)) (Rg.only 2 1 (by decide)) (by decide) (rec_one _) (by simp [maxLen]; omega) (by omega) ?_
                simp only [Act.put, List.setIfInBounds_toArray, List.set_cons_succ, List.set_cons_zero]
                -- 3: slot 108 := Op.move t7
                refine Rg.Chain.pure rfl (fun w => by go_simp; (try go_ints); with_reducible rfl) ?_
                simp only [Act.put, List.setIfInBounds_toArray, List.set_cons_succ, List.set_cons_zero]
                -- 4: slot 109 := Op.move t15
                refine Rg.Chain.pure rfl (fun w => by go_simp; (try go_ints); with_reducible rfl) ?_
                simp only [Act.put, List.setIfInBounds_toArray, List.set_cons_succ, List.set_cons_zero]
                -- 5: slot 110 := Op.slice 9 t108 (some t109) none none
                refine Rg.Chain.pure rfl (fun w => by go_simp; (try go_ints); with_reducible rfl) ?_
                simp only [Act.put, List.setIfInBounds_toArray, List.set_cons_succ, List.set_cons_zero]
                -- 6: slot 13 := Op.assign t107
                refine Rg.Chain.take 2 rfl rfl (by decide) (Rg.only 6 2 (by decide)) (by decide) (fun w => by go_simp) ?_
                simp only [Act.put, List.setIfInBounds_toArray, List.set_cons_succ, List.set_cons_zero]
                -- 7: slot 7 := Op.assign t110
                refine Rg.Chain.pure rfl (fun w => by go_simp; (try go_ints); with_reducible rfl) ?_
                simp only [Act.put, List.setIfInBounds_toArray, List.set_cons_succ, List.set_cons_zero]
                exact Rg.Chain.nil
              case hown =>
                rintro j k (⟨_, h⟩ | ⟨_, h⟩)
                · exact (oY.lt k h).2
                · exact (oZ.lt k h).2
              case hdis =>
                rintro i j k (⟨rfl, h⟩ | ⟨rfl, h⟩) (⟨rfl, h'⟩ | ⟨rfl, h'⟩)
                · rfl
                · have := hYlt2 k h; have := (oZ.lt k h').1; omega
                · have := hYlt2 k h'; have := (oZ.lt k h).1; omega
                · rfl
              case hend =>
                intro vs F w6 hE
                have hrow2 := Rg.end_row (B := w4.heap.size) hE (Rg.kept 6 (by decide)) rfl hz5 hown'
                have hb2 := Rg.step_from hE.step hz5 hown'
                clear hE hown'
                simp only [Rg.finalAct, Rg.slot_val, Rg.slot_any, Act.put, List.setIfInBounds_toArray, List.set_cons_succ, List.set_cons_zero]
                generalize vs 6 = v6 at hrow2 ⊢
                have gB6 : w6.heap[B2]? = some (cutObj w' 65535 false) := (hb2.block B2 z4).trans gB5
                have hon7 := only_then hon6 hb2
                go_wp2_with fail
                go_roundw
                case rel =>
                  have hK := HK.out
                  have hs := HSX.out
                  refine ⟨c + (min (sx.length : Int) (X + 1)).toNat, j + 1, Y ++ Z, w', by first | rw [HDD.out] | rw [← List.drop_one, HDD.out], by go_num, by omega, by omega, HP2.out, p3, ?_, gB6, hon7⟩
                  rw [recCells_append, List.length_append]
                  exact hrow2
                case measure => have := HSX.out; have := HK.out; simp [textLen, bs_size]; omega
          · obtain rfl : c = T.length := by omega
            rw [List.take_length, HRun.out] at hcr
            obtain ⟨rfl, _, rfl, _⟩ : l = Y ∧ (0 : Int) = 0 ∧ M = wt ∧ false = false := by simpa using hcr
            rw [show T.drop T.length = [] from List.drop_length]
            have W : Below w.heap.size w wr := W4.trans (only_base hon hB2 W4.size)
            have gA := only_kept hon fA (by omega)
            have ox2 := own_only ox hon (by omega)
            have hMM := HM.out
            clear fA ox
            go_wp2_with fail
            refine (same_any l vx _ _ (by omega) (own_reads ox2) (HRl.out _ W)).mono ?_
            rintro e w5 ⟨rfl, hb⟩
            have W5 := below_later W hb
            replace gA := kept gA hb
            replace gB := kept gB hb
            replace oY := own_kept oY hb
            clear hb W ox2
            go_wp2_with fail
            refine (same_any l u13 _ _ (by omega) (own_reads oY) (HRl.out _ W5)).mono ?_
            rintro e w6 ⟨rfl, hb⟩
            have W6 := below_later W5 hb
            replace gA := kept gA hb
            replace gB := kept gB hb
            clear hb W5 oY
            go_wp2_with fail
            refine (cwaits_any _ _ _ _ _ gA).mono ?_
            rintro e w7 ⟨rfl, rfl⟩
            go_wp2_with fail
            refine (cwaits_any _ _ _ _ _ gB).mono ?_
            rintro e w8 ⟨rfl, rfl⟩
            go_wp2_with fail
            go_ret
            exact ⟨rfl, W6⟩

theorem cc_said (l : List Rec) (v : Value) (more : ByteArray) (at_ : List UInt8) (va : Value) (w : World) (hR : Reads w v 4 l.length (l.flatMap Rec.cells)) (hF : ∀ r ∈ l, r.Fit) (hm : more.size ≤ maxLen) (hRa : Reads w va 1 at_.length (at_.flatMap fun b => [bv b])) (hg : w.cell? ⟨0, 0, none⟩ = some errTypeV) :
    Calls Tryd.prog 3 #[v, .string more, va] w fun e w' => e = .returned (.bool true) ∧ Below w.heap.size w w' := by
  rw [bs_of more]
  exact cc_any l v _ at_ va w hR hF (size_bs hm) hRa hg
end Go.Proofs.YtbhdoechhfgpeaaRRRDoor
