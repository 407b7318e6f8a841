/- conduitlaw5.CutterStops answers true at all arguments, where the package errors' variable holds what it was given. Condition: that. -/
import Derived.Test.YtfhddeghmlnobaaDoorCutterLimits
import Derived.Test.YtfhddeghmlnobaaDoorSameRecs
import Derived.Test.YtfhddeghmlnobaaDoorOpen
import Derived.Test.YtfhddeghmlnobaaDoorAppRec
namespace Go.Proofs.YtfhddeghmlnobaaDoor
open Go.RowKit

def badB (k : Nat) : Bs := if k = 0 then [7] else if k = 1 then [1, 6, 0, 1, 1, 0] else [1, 0, 0, 1, 0, 0, 0, 0]
def badC (k : Nat) : Int := if k = 0 then 13 else if k = 1 then 12 else 10
set_option maxRecDepth 100000 in
theorem bad_run (k : Nat) (hk : k < 3) (tail : Bs) : cutRun 200 (badB k ++ tail) = ([], badC k, [], true) := by
  have h : (cutNext 200 (badB k ++ tail)).2.2 = badC k := by
    match k, hk with
    | 0, _ =>
      show (cutNext 200 ((7 : UInt8) :: tail)).2.2 = 13
      have e : at0 ((7 : UInt8) :: tail) 0 = 7 := rfl
      rw [cutNext_def, if_neg (fun x => by have := x.2.1; rw [e] at this; omega), recRead_ver (by simp) (by rw [e]; omega)]
    | 1, _ =>
      show (cutNext 200 ([1, 6, 0, 1, 1, 0] ++ tail)).2.2 = 12
      have e4 : at0 ([1, 6, 0, 1, 1, 0] ++ tail) 4 = 1 := rfl
      have e5 : at0 ([1, 6, 0, 1, 1, 0] ++ tail) 5 = 0 := rfl
      rw [cutNext_def, if_pos ⟨by simp, rfl, by rw [e4, e5]; omega⟩]
    | 2, _ =>
      show (cutNext 200 ([1, 0, 0, 1, 0, 0, 0, 0] ++ tail)).2.2 = 10
      have e4 : at0 ([1, 0, 0, 1, 0, 0, 0, 0] ++ tail) 4 = 0 := rfl
      have e5 : at0 ([1, 0, 0, 1, 0, 0, 0, 0] ++ tail) 5 = 0 := rfl
      have e6 : at0 ([1, 0, 0, 1, 0, 0, 0, 0] ++ tail) 6 = 0 := rfl
      have hw : wholeN ([1, 0, 0, 1, 0, 0, 0, 0] ++ tail) = 8 := by unfold wholeN; rw [e4, e5, e6]; rfl
      rw [cutNext_def, if_neg (fun x => by have := x.2.2; rw [e4, e5] at this; omega), recRead_form rfl (by simp) (by rw [hw]; simp; omega) rfl]
  have hc : badC k = 13 ∨ badC k = 12 ∨ badC k = 10 := by unfold badC; split <;> (try split) <;> simp
  rw [cutRun_bad (by rw [h]; omega) (by rw [h]; omega), h]

/-- The two feedings. -/
theorem stops_plain (l : List Rec) (hl : ∀ r ∈ l, r.Is ∧ r.c.length ≤ 100) (j k : Nat) (hk : k < 3) (tail : Bs) :
    ∃ a w b, cutFeed 200 false [] ((allBytes l).take j) = (a, 0, w, false) ∧ cutFeed 200 false w ((allBytes l).drop j ++ badB k ++ tail) = (b, badC k, [], true) ∧ a ++ b = l ∧ w.length ≤ (allBytes l).length := by
  have hF : ∀ r ∈ l, r.Is ∧ (r.c.length : Int) ≤ 200 := fun r hr => ⟨(hl r hr).1, by have := (hl r hr).2; omega⟩
  have h0 := cutRun_recs 200 l [] hF
  rw [cutRun_nil, List.append_nil] at h0
  have hp : (cutRun 200 ((allBytes l).take j)).2.1 = 0 := cutRun_prefix 200 ((allBytes l).take j) ((allBytes l).drop j) (by rw [List.take_append_drop, h0]; rfl)
  have h1 := cutRun_recs 200 l (badB k ++ tail) hF
  rw [bad_run k hk tail] at h1
  have h2 := cutRun_more 200 ((allBytes l).take j) ((allBytes l).drop j ++ badB k ++ tail) hp
  rw [← List.append_assoc, ← List.append_assoc, List.take_append_drop, List.append_assoc, h1] at h2
  have hd := (cutRun_dead 200 ((allBytes l).take j)).1 hp
  have hwt := cutRun_wait 200 ((allBytes l).take j)
  refine ⟨(cutRun 200 ((allBytes l).take j)).1, (cutRun 200 ((allBytes l).take j)).2.2.1, (cutRun 200 ((cutRun 200 ((allBytes l).take j)).2.2.1 ++ ((allBytes l).drop j ++ badB k ++ tail))).1, ?_, ?_, ?_, ?_⟩
  · show cutRun 200 ([] ++ (allBytes l).take j) = _
    rw [List.nil_append]
    generalize cutRun 200 ((allBytes l).take j) = q at *
    obtain ⟨q1, q2, q3, q4⟩ := q
    simp only at hp hd
    rw [hp, hd]
  · show cutRun 200 ((cutRun 200 ((allBytes l).take j)).2.2.1 ++ ((allBytes l).drop j ++ badB k ++ tail)) = _
    generalize cutRun 200 ((cutRun 200 ((allBytes l).take j)).2.2.1 ++ ((allBytes l).drop j ++ badB k ++ tail)) = q at *
    obtain ⟨q1, q2⟩ := q
    have := congrArg Prod.snd h2
    simp only [glueC] at this
    rw [← this]
  · have := congrArg Prod.fst h2
    simp only [glueC, List.append_nil] at this
    exact this.symm
  · rw [List.length_take] at hwt; omega

theorem stops_ix (kk : Nat) (h : kk < 3) : ∀ w : World, (Instr.index 61 (.agg #[.string (bs [7]), .string (bs [1, 6, 0, 1, 1, 0]), .string (bs [1, 0, 0, 1, 0, 0, 0, 0])]) (.int .u8 (kk : Int))).run Tryd.prog w = .ok (.string (bs (badB kk))) w := by
  have h3 : kk = 0 ∨ kk = 1 ∨ kk = 2 := by omega
  rcases h3 with rfl | rfl | rfl <;> (intro w; kernel_rfl)
theorem stops_iy (kk : Nat) (h : kk < 3) : ∀ w : World, (Instr.index 62 (.agg #[.int .i64 13, .int .i64 12, .int .i64 10]) (.int .u8 (kk : Int))).run Tryd.prog w = .ok (.int .i64 (badC kk)) w := by
  have h3 : kk = 0 ∨ kk = 1 ∨ kk = 2 := by omega
  rcases h3 with rfl | rfl | rfl <;> (intro w; kernel_rfl)
theorem allBytes_take (rs : List Rec) (k : Nat) (h : k < rs.length) : allBytes (rs.take (k + 1)) = allBytes (rs.take k) ++ (rs[k]).bytes := by
  unfold allBytes
  rw [List.take_succ_eq_append_getElem h, List.flatMap_append]
  simp
theorem allBytes_le : ∀ (l : List Rec), (∀ r ∈ l, r.Is ∧ r.c.length ≤ 100) → (allBytes l).length ≤ 400 * l.length
  | [], _ => by simp [allBytes]
  | r :: l, h => by
    have h1 := h r (by simp)
    have h2 := allBytes_le l (fun q hq => h q (by simp [hq]))
    have h3 := bytes_length h1.1
    have h4 : r.p ≤ 255 := h1.1.2.2.2.2.2.2
    rw [allBytes_cons, List.length_append, List.length_cons]
    omega

set_option maxRecDepth 100000 in
set_option maxHeartbeats 8000000 in
theorem cs_any (l : List Rec) (v : Value) (kd : Int) (tail : Bs) (at_ : Int) (w : World) (hk0 : 0 ≤ kd) (hk1 : kd < 256) (ha0 : 0 ≤ at_) (ha1 : at_ < 256) (hR : Reads w v 4 l.length (recCells l)) (hF : ∀ r ∈ l, r.Fit) (ht : tail.length ≤ 9223372036854775807) (hg : w.cell? ⟨0, 0, none⟩ = some errTypeV) :
    Calls Tryd.prog 9 #[v, .int .u8 kd, .string (bs tail), .int .u8 at_] w fun e w' => e = .returned (.bool true) ∧ Below w.heap.size w w' := by
  have hgl := World.block_lt_of_cell? w _ hg
  simp only at hgl
  have hg' : ∀ w', Below w.heap.size w w' → w'.cell? ⟨0, 0, none⟩ = some errTypeV := fun w' hb => by rw [hb.cell (World.block_lt_of_cell? w _ hg)]; exact hg
  have HG := Lib.hid hg'
  clear hg hg'
  have hR0 := hR
  have hlm := hR.2.1
  unfold maxLen at hlm
  obtain ⟨a, cap, rfl, h⟩ := hR.opened (fun _ _ => rfl) (by decide)
  have HH := Lib.hid h
  have HF := Lib.hid hF
  have HRl := Lib.hid (fun w' (hb : Below w.heap.size w w') => hR0.later (by decide) hb)
  clear hR hR0 h hF
  obtain ⟨kk, hkk, hkk3⟩ : ∃ kk : Nat, kd % 3 = (kk : Int) ∧ kk < 3 := ⟨(kd % 3).toNat, by omega, by omega⟩
  have hix := stops_ix kk hkk3
  have hiy := stops_iy kk hkk3
  go_enter Tryd.func9, Tryd.ntmps9
  go_wp2_with fail
  refine (known5 _ (HG.out _ (Below.refl _ _))).mono ?_
  rintro e w1 ⟨rfl, W1⟩
  by_cases h6 : 6 < l.length
  · have q1 : decide ((6 : Int) < (l.length : Int)) = true := by simp; omega
    go_wp2_with fail
    go_ret
    exact ⟨rfl, W1⟩
  have q1 : decide ((6 : Int) < (l.length : Int)) = false := by simp; omega
  by_cases h100 : 100 < tail.length
  · have q2 : decide ((100 : Int) < (tail.length : Int)) = true := by simp; omega
    go_wp2_with fail
    go_ret
    exact ⟨rfl, W1⟩
  have q2 : decide ((100 : Int) < (tail.length : Int)) = false := by simp; omega
  go_wp2_with fail
  clear q1 q2
  go_loopw [9, 10] (fun t i wr => ∃ k : Nat, k ≤ l.length ∧ i = .int .i64 k ∧ t = .string (bs (allBytes (l.take k))) ∧ Below w.heap.size w wr ∧ ∀ r ∈ l.take k, r.Is ∧ r.c.length ≤ 100) (fun _ i _ => l.length - (intOf i).toNat)
  case atStart => exact ⟨0, Nat.zero_le _, rfl, rfl, W1, by simp⟩
  case round =>
    obtain ⟨k, hk, rfl, rfl, hW, hall⟩ := hrel
    by_cases hlt : k < l.length
    · obtain ⟨b, off, rfl, hbl, hc⟩ := HH.out (by omega)
      have c0 : w.cell? ⟨b, off + k * 4, none⟩ = some (.int .i64 l[k].t) := hc k hlt 0 _ rfl
      have c1 : w.cell? ⟨b, off + k * 4 + 1, none⟩ = some (.int .i64 l[k].id) := hc k hlt 1 _ rfl
      have c2 : w.cell? ⟨b, off + k * 4 + 2, none⟩ = some (.string (bs l[k].c)) := hc k hlt 2 _ rfl
      have c3 : w.cell? ⟨b, off + k * 4 + 3, none⟩ = some (.int .i64 l[k].p) := hc k hlt 3 _ rfl
      rw [← hW.cell hbl] at c0 c1 c2 c3
      have hz := Nat.lt_of_lt_of_le hbl hW.size
      have hfit := (HF.out _ (List.getElem_mem hlt)).2.2.1
      have hle := allBytes_le (l.take k) hall
      rw [List.length_take] at hle
      have hnx := allBytes_take l k hlt
      have htk : l.take (k + 1) = l.take k ++ [l[k]] := List.take_succ_eq_append_getElem hlt
      generalize l[k] = r at *
      have hI := fun w => ris_any r w hfit
      have hBy := fun w => rbytes_any r w hfit
      by_cases hIs : r.Is ∧ r.c.length ≤ 100
      · obtain ⟨hIs, h1⟩ := hIs
        have hbl2 := bytes_length hIs
        have hp : r.p ≤ 255 := hIs.2.2.2.2.2.2
        have hp0 : 0 ≤ r.p := hIs.2.2.2.2.2.1
        rw [decide_eq_true hIs] at hI
        have hnew : ∀ q ∈ l.take (k + 1), q.Is ∧ q.c.length ≤ 100 := by
          intro q hq
          rw [htk] at hq
          rcases List.mem_append.1 hq with h | h
          · exact hall q h
          · simp at h; subst h; exact ⟨hIs, h1⟩
        have hrb : r.bytes.length ≤ 400 := by omega
        have hzz : (allBytes (l.take k)).length ≤ 2400 := by
          have : min k l.length ≤ 6 := by omega
          omega
        clear hall hc htk hle hbl2 hp hp0 hIs
        generalize r.bytes = X at *
        generalize allBytes (l.take k) = Z at *
        obtain ⟨rt, ri, rc, rp⟩ := r
        simp only at c0 c1 c2 c3 h1 hfit
        have q5 : decide ((100 : Int) < (rc.length : Int)) = false := by simp; omega
        have HI := Lib.hid (show ∀ w, Calls Tryd.prog 27 #[.agg #[.int .i64 rt, .int .i64 ri, .string (bs rc), .int .i64 rp]] w fun e w' => e = .returned (.bool true) ∧ Below w.heap.size w w' from hI)
        have HBy := Lib.hid (show ∀ w, Calls Tryd.prog 28 #[.agg #[.int .i64 rt, .int .i64 ri, .string (bs rc), .int .i64 rp]] w fun e w' => e = .returned (.string (bs X)) ∧ Below w.heap.size w w' from hBy)
        have HNX := Lib.hid hnx
        have HNW := Lib.hid hnew
        clear hI hBy hnx hnew
        go_wp2_with fail
        refine (HI.out _).mono ?_
        rintro e w3 ⟨rfl, hb⟩
        rw [← hb.cell hz] at c0 c1 c2 c3
        have W3 := below_later hW hb
        replace hz := Nat.lt_of_lt_of_le hz hb.size
        clear hb hW
        go_wp2_with fail
        refine (HBy.out _).mono ?_
        rintro e w4 ⟨rfl, hb⟩
        have W4 := below_later W3 hb
        clear hb W3 c0 c1 c2 c3
        go_wp2_with fail
        go_roundw
        case rel => exact ⟨k + 1, by omega, by go_num, by rw [HNX.out], W4, HNW.out⟩
        case measure => simp [intOf]; omega
      · clear hall hc htk hle hnx hBy
        generalize hd : decide r.Is = D at hI
        obtain ⟨rt, ri, rc, rp⟩ := r
        simp only at c0 c1 c2 c3 hfit
        have HI := Lib.hid (show ∀ w, Calls Tryd.prog 27 #[.agg #[.int .i64 rt, .int .i64 ri, .string (bs rc), .int .i64 rp]] w fun e w' => e = .returned (.bool D) ∧ Below w.heap.size w w' from hI)
        clear hI
        cases D
        · clear hd hIs
          go_wp2_with fail
          refine (HI.out _).mono ?_
          rintro e w3 ⟨rfl, hb⟩
          go_wp2_with fail
          go_ret
          exact ⟨rfl, below_later hW hb⟩
        · have h1 : ¬ rc.length ≤ 100 := fun h => hIs ⟨of_decide_eq_true hd, h⟩
          have q5 : decide ((100 : Int) < (rc.length : Int)) = true := by simp; omega
          clear hd hIs
          go_wp2_with fail
          refine (HI.out _).mono ?_
          rintro e w3 ⟨rfl, hb⟩
          rw [← hb.cell hz] at c0 c1 c2 c3
          have W3 := below_later hW hb
          replace hz := Nat.lt_of_lt_of_le hz hb.size
          clear hb hW
          go_wp2_with fail
          go_ret
          exact ⟨rfl, W3⟩
    · obtain rfl : k = l.length := by omega
      rw [List.take_length] at hall
      rw [List.take_length]
      have hSl := allBytes_le l hall
      have hS24 : (allBytes l).length ≤ 2400 := by omega
      have hpl := stops_plain l hall (min ((allBytes l).length : Int) at_).toNat kk hkk3 tail
      have hcn : badC kk ≠ 0 := by unfold badC; split <;> (try split) <;> omega
      have hb8 : (badB kk).length ≤ 8 := by unfold badB; split <;> (try split) <;> simp
      clear hall hSl
      generalize allBytes l = S at *
      generalize badB kk = bB at *
      generalize badC kk = bC at *
      have m0 : 0 ≤ min (S.length : Int) at_ := by omega
      have m1 : min (S.length : Int) at_ ≤ (S.length : Int) := by omega
      obtain ⟨ra, wt, rb, p1, p2, hab, hwl⟩ := hpl
      rw [List.append_assoc] at p2
      have hA := fun b w hb hg hne => cfeed_any b [] (S.take (min (S.length : Int) at_).toNat) 200 false w hb hg hne (by simp only [List.length_nil, List.length_take]; omega)
      have hB := fun b w hb hg hne => cfeed_any b wt (S.drop (min (S.length : Int) at_).toNat ++ (bB ++ tail)) 200 false w hb hg hne (by simp only [List.length_append, List.length_drop]; omega)
      have hC := fun b w hb hg hne => cfeed_any b [] [109, 111, 114, 101] 200 true w hb hg hne (by decide)
      rw [p1] at hA
      rw [p2] at hB
      simp only [errV_zero] at hA hB
      rw [errV_num hcn] at hB
      rw [show cutFeed 200 true [] [109, 111, 114, 101] = ([], 18, [], true) from rfl] at hC
      simp only at hC
      rw [errV_num (by decide)] at hC
      have HA := Lib.hid hA
      have HB := Lib.hid hB
      have HC := Lib.hid hC
      have HAB := Lib.hid hab
      clear hA hB hC hab p1 p2
      go_wp2_with fail
      refine (cnew_any 200 _).mono ?_
      rintro e w2 ⟨rfl, hw2⟩
      have b1 : w2.heap[wr.heap.size]? = some (cutObj [] 200 false) := by rw [hw2]; exact heap_alloc_new wr _
      have W2 : Below w.heap.size w w2 := by rw [hw2]; exact below_later hW (below_alloc _ _)
      have hB1 := hW.size
      clear hw2 hW
      generalize wr.heap.size = B1 at *
      go_wp2_with fail
      refine (HA.out _ _ b1 (HG.out _ W2) (by omega)).mono ?_
      rintro e w3 ⟨v3, rfl, o3, b3, hon⟩
      have W3 : Below w.heap.size w w3 := W2.trans (only_base hon hB1 W2.size)
      have z1 := box_lt b1
      have zz := hon.size
      replace o3 := own_low o3 (C := B1 + 1) z1
      clear hon W2 b1
      go_wp2_with fail
      refine (HB.out _ _ b3 (HG.out _ W3) (by omega)).mono ?_
      rintro e w4 ⟨v4, rfl, o4, b4, hon⟩
      have W4 : Below w.heap.size w w4 := W3.trans (only_base hon hB1 W3.size)
      replace o3 := own_only o3 hon (by omega)
      replace o4 := own_low o4 (C := B1 + 1) (by omega)
      have zz4 := hon.size
      clear hon W3 b3
      go_wp2_with fail
      refine (HC.out _ _ b4 (HG.out _ W4) (by omega)).mono ?_
      rintro e w5 ⟨v5, rfl, o5, b5, hon⟩
      have W5 : Below w.heap.size w w5 := W4.trans (only_base hon hB1 W4.size)
      replace o3 := own_only o3 hon (by omega)
      replace o4 := own_only o4 hon (by omega)
      clear hon W4 b4 o5
      have zb5 := box_lt b5
      have n5 := World.ownsRow_nil w5 w5.heap.size 58 4
      have r3 := own_reads o3
      have hlab := congrArg List.length HAB.out
      rw [List.length_append] at hlab
      have hbd1 : 0 + ra.length ≤ 1000000000 := by omega
      have hbd2 : 0 + ra.length + rb.length ≤ 1000000000 := by omega
      have HB1 := Lib.hid hbd1
      have HB2 := Lib.hid hbd2
      have HL0 := Lib.hid hlab
      clear hbd1 hbd2 hlab o3
      go_wp2_with (at_builtin; first
        | (refine wpList_append_arg_r n5 r3 (Nat.le_refl _) (rec_one _) HB1.out rfl _ _ rfl rfl rfl rfl ?_; intro v6 w6 o6 hb6; have r4 := own_reads (own_kept o4 hb6); have b6 := kept b5 hb6; have W6 := below_later W5 hb6; have zz6 := hb6.size; clear n5 r3 o4 b5)
        | (refine wpList_append_arg_r o6 r4 zz6 (rec_one _) HB2.out rfl _ _ rfl rfl rfl rfl ?_; intro v7 w7 o7 hb7; have b7 : w7.heap[B1]? = some (cutObj [] 200 true) := (hb7.block B1 zb5).trans b6; have W7 := W5.trans ((hb6.trans hb7).mono W5.size); clear o6 r4 b6 W6))
      refine (is_num bC bC _).mono ?_
      rintro e w8 ⟨rfl, rfl⟩
      go_wp2_with fail
      refine (is_num 18 18 _).mono ?_
      rintro e w9 ⟨rfl, rfl⟩
      go_wp2_with fail
      refine (cdead_any _ _ _ _ _ b7).mono ?_
      rintro e w10 ⟨rfl, rfl⟩
      have hab := HAB.out
      have hln : 0 + ra.length + rb.length = l.length := by rw [← hab, List.length_append]; omega
      have hcl : [] ++ recCells ra ++ recCells rb = recCells l := by rw [← hab, recCells_append]; rfl
      rw [hln, hcl] at o7
      have r7 := own_reads o7
      clear hab hln hcl o7 HAB HL0 HB1 HB2
      go_wp2_with fail
      refine (same_any l v7 _ _ (by omega) r7 (HRl.out _ W7)).mono ?_
      rintro e w11 ⟨rfl, hb⟩
      go_wp2_with fail
      go_ret
      exact ⟨rfl, below_later W7 hb⟩
theorem cs_said (l : List Rec) (v : Value) (kd : Int) (tail : ByteArray) (at_ : Int) (w : World) (hk : 0 ≤ kd ∧ kd < 256) (ha : 0 ≤ at_ ∧ at_ < 256) (hR : Reads w v 4 l.length (l.flatMap Rec.cells)) (hF : ∀ r ∈ l, r.Fit) (ht : tail.size ≤ maxLen) (hg : w.cell? ⟨0, 0, none⟩ = some errTypeV) :
    Calls Tryd.prog 9 #[v, .int .u8 kd, .string tail, .int .u8 at_] w fun e w' => e = .returned (.bool true) ∧ Below w.heap.size w w' := by
  rw [bs_of tail]
  exact cs_any l v kd _ at_ w hk.1 hk.2 ha.1 ha.2 hR hF (size_bs ht) hg
end Go.Proofs.YtfhddeghmlnobaaDoor
