/- What a judge reads of bytes that are whole records. Conditions: the records are right ones, a million bytes at most; the package errors' variable. And what follows from it. -/
import Derived.Test.YtniflggmfegnfaaDoorJudgeHeap
import Derived.Test.YtniflggmfegnfaaDoorCutRef
import Derived.Test.YtniflggmfegnfaaDoorBytes
import Derived.Test.YtniflggmfegnfaaDoorOpenP
/- What a judge reads of bytes that are whole records. Conditions: the records are right ones, a million bytes at most; the package errors' variable. -/
namespace Go.Proofs.YtniflggmfegnfaaDoor
open Go.RowKit

theorem rd_empty (w : World) (B : Nat) (hB : B ≤ w.heap.size) : RdAt B ((w.alloc (.map #[] 0)).alloc (readObj (.slice none 0 0) w.heap.size (.slice none 0 0))) (w.heap.size + 1) JS.empty := by
  have hb : ((w.alloc (.map #[] 0)).alloc (readObj (.slice none 0 0) w.heap.size (.slice none 0 0))).heap[w.heap.size + 1]? = some (readObj (.slice none 0 0) w.heap.size (.slice none 0 0)) := by
    have := heap_alloc_new (w.alloc (.map #[] 0)) (readObj (.slice none 0 0) w.heap.size (.slice none 0 0))
    simpa using this
  refine ⟨by omega, .slice none 0 0, w.heap.size, .slice none 0 0, [], fun _ => none, hb, rfl, World.ownsRow_nil _ _ _ _, World.ownsRow_nil _ _ _ _, by simp, ?_, hB, (fun i p _ h => by cases h), (fun i _ _ => rfl), (fun i j b _ _ h _ => by cases h)⟩
  exact (PMap.made w).kept (below_alloc _ _)

theorem run_take_succ (r : JS) (f : Int) (L : List Rec) (k : Nat) (hk : k < L.length) (h : (r.run f (L.take k)).2 = 0) :
    r.run f (L.take (k + 1)) = if ((r.run f (L.take k)).1.take L[k] (f + (allBytes (L.take k)).length)).2 = 0 then (((r.run f (L.take k)).1.take L[k] (f + (allBytes (L.take k)).length)).1, 0) else (r.run f (L.take k)).1.take L[k] (f + (allBytes (L.take k)).length) := by
  rw [List.take_succ_eq_append_getElem hk, run_append r f _ _ h, run_cons]
  split
  next e => rfl
  next e => rfl
theorem run_bad (r : JS) (f : Int) (L : List Rec) (k : Nat) (hk : k < L.length) (h : (r.run f (L.take k)).2 = 0) (hc : ((r.run f (L.take k)).1.take L[k] (f + (allBytes (L.take k)).length)).2 ≠ 0) :
    (r.run f L).2 = ((r.run f (L.take k)).1.take L[k] (f + (allBytes (L.take k)).length)).2 := by
  have e : L = L.take k ++ (L[k] :: L.drop (k + 1)) := by rw [← List.drop_eq_getElem_cons hk, List.take_append_drop]
  have e2 : r.run f L = r.run f (L.take k ++ (L[k] :: L.drop (k + 1))) := by rw [← e]
  rw [e2, run_append r f _ _ h, run_cons, if_neg hc]
theorem allBytes_append (a b : List Rec) : allBytes (a ++ b) = allBytes a ++ allBytes b := by unfold allBytes; rw [List.flatMap_append]
theorem allBytes_take (L : List Rec) (k : Nat) (hk : k < L.length) : (allBytes (L.take (k + 1))).length = (allBytes (L.take k)).length + L[k].bytes.length := by
  rw [List.take_succ_eq_append_getElem hk, allBytes_append, List.length_append]
  simp [allBytes]
theorem allBytes_take_le (L : List Rec) (k : Nat) : (allBytes (L.take k)).length ≤ (allBytes L).length := by
  have e : L = L.take k ++ L.drop k := (List.take_append_drop k L).symm
  have : allBytes L = allBytes (L.take k) ++ allBytes (L.drop k) := by
    rw [← allBytes_append, List.take_append_drop]
  rw [this, List.length_append]
  omega
theorem bytes_ge (r : Rec) (h : r.Is) : r.c.length + 1 ≤ r.bytes.length := by
  unfold Rec.bytes
  rw [if_pos h]
  simp
  omega

/-- What read gives: the reading, or the error's number. -/
def RdRes (B : Nat) (S : JS) (C : Int) (e : Ending) (w' : World) : Prop := (C ≠ 0 ∧ e = .returned (.tuple #[.pointer none, eV C])) ∨ (C = 0 ∧ ∃ rb, e = .returned (.tuple #[.pointer (some ⟨rb, 0, none⟩), .nilIface]) ∧ RdAt B w' rb S)

set_option maxRecDepth 100000 in
set_option maxHeartbeats 4000000 in
theorem jread_raw (s : Bs) (L : List Rec) (w : World) (hq : cutFeed 65535 false [] s = (L, 0, [], false)) (hs : s = allBytes L) (hI : ∀ x ∈ L, x.Is) (hl : s.length ≤ 1000000) (hg : w.cell? ⟨0, 0, none⟩ = some errTypeV) :
    Calls Tryd.prog 18 #[.string (bs s)] w fun e w' => RdRes w.heap.size (JS.empty.run 0 L).1 (JS.empty.run 0 L).2 e w' ∧ Below w.heap.size w w' := by
  have hg0 : 0 < w.heap.size := World.block_lt_of_cell? w _ hg
  have hg' : ∀ w', Below w.heap.size w w' → w'.cell? ⟨0, 0, none⟩ = some errTypeV := fun w' hb => by rw [hb.cell hg0]; exact hg
  have HG := Lib.hid hg'
  clear hg hg'
  have hF := fun b w' h1 h2 h3 => cfeed_any b [] s 65535 false w' h1 h2 h3 (by simpa using hl)
  rw [hq] at hF
  simp only [errV_zero] at hF
  have HF := Lib.hid hF
  clear hF hq
  have hmm := @run_makeMap Tryd.prog
  have hlen : L.length ≤ 1000000 := by
    have : ∀ l : List Rec, (∀ x ∈ l, x.Is) → l.length ≤ (allBytes l).length := by
      intro l
      induction l with
      | nil => intro _; simp
      | cons x l ih =>
        intro h
        have h1 := bytes_ge x (h x (by simp))
        have h2 := ih (fun y hy => h y (by simp [hy]))
        rw [allBytes_cons, List.length_append, List.length_cons]
        omega
    have := this L hI
    rw [hs] at hl
    omega
  have HI := Lib.hid hI
  have hsl := hs
  have HS := Lib.hid hsl
  clear hsl hI hs
  go_enter Tryd.func18, Tryd.ntmps18
  go_wp2_with fail
  have hrd := rd_empty w w.heap.size (Nat.le_refl _)
  obtain ⟨u, hu⟩ : ∃ u, u = (w.alloc (.map #[] 0)).alloc (readObj (.slice none 0 0) w.heap.size (.slice none 0 0)) := ⟨_, rfl⟩
  have Wu : Below w.heap.size w u := by rw [hu]; exact below_later (below_alloc _ _) (below_alloc _ _)
  rw [← hu] at hrd ⊢
  clear hu hmm
  refine (cnew_any 65535 _).mono ?_
  rintro e w1 ⟨rfl, hw1⟩
  have b1 : w1.heap[u.heap.size]? = some (cutObj [] 65535 false) := by rw [hw1]; exact heap_alloc_new u _
  have W1 : Below u.heap.size u w1 := by rw [hw1]; exact below_alloc _ _
  clear hw1
  go_wp2_with fail
  refine (HF.out _ _ b1 (HG.out _ (below_later Wu W1)) (by have := Wu.size; omega)).mono ?_
  rintro e w2 ⟨v, rfl, hov, _, hon⟩
  have W2 : Below u.heap.size u w2 := W1.trans (only_base hon (Nat.le_refl _) W1.size)
  have hrd2 := hrd.keeps W2
  have W3 := below_later Wu W2
  obtain ⟨a, cap, rfl⟩ := own_slice hov
  have hrow : 0 < L.length → ∃ (g : Nat) (cur : Array Value), a = some ⟨g, 0, none⟩ ∧ w2.heap[g]? = some (.cells cur 33 (0, 0)) ∧ ∀ (j : Nat) (u : Value), (recCells L)[j]? = some u → cur[j]? = some u := by
    intro h
    obtain ⟨g, cap', hv, _, _, hc⟩ := own_open hov h
    simp only [Value.slice.injEq, true_and] at hv
    obtain ⟨rfl, rfl⟩ := hv
    obtain ⟨cur, ho⟩ := own_obj hov (g := g) rfl
    exact ⟨g, cur, rfl, ho, fun j u hj => by rw [← box_cells ho j]; exact hc j u hj⟩
  have HR := Lib.hid hrow
  generalize hrb : w.heap.size + 1 = rb at *
  generalize hB : w.heap.size = B at *
  clear hrow hov hon W2 hrd b1 W1 HF
  go_wp2_with fail
  go_loopw [7, 23] (fun p i wr => ∃ k : Nat, k ≤ L.length ∧ i = .int .i64 k ∧ p = .int .i64 (allBytes (L.take k)).length ∧ RdAt B wr rb (JS.empty.run 0 (L.take k)).1 ∧ (JS.empty.run 0 (L.take k)).2 = 0 ∧ (JS.empty.run 0 (L.take k)).1.Small (allBytes (L.take k)).length ∧ Below B w wr ∧ Keeps w2 wr) (fun _ i _ => L.length - (intOf i).toNat)
  case atStart => exact ⟨0, Nat.zero_le _, rfl, by simp [allBytes], hrd2, rfl, small_empty.more (Nat.zero_le _), W3, fun _ _ _ h => h⟩
  case round =>
    obtain ⟨k, hk, rfl, rfl, hR, hz, hsm, hW, hkp⟩ := hrel
    have hok : (JS.empty.run 0 (L.take k)).1.Ok := ok_run ok_empty _ _
    by_cases hlt : k < L.length
    · obtain ⟨g, cur, rfl, ho, hc⟩ := HR.out (by omega)
      have ho' := hkp _ _ _ ho
      obtain ⟨h1, h2, h3, h0⟩ := rec_at L k hlt
      have c0 : wr.cell? ⟨g, k * 4, none⟩ = some (.int .i64 L[k].t) := by rw [box_cells ho']; exact hc _ _ h0
      have c1 : wr.cell? ⟨g, k * 4 + 1, none⟩ = some (.int .i64 L[k].id) := by rw [box_cells ho']; exact hc _ _ h1
      have c2 : wr.cell? ⟨g, k * 4 + 2, none⟩ = some (.string (bs L[k].c)) := by rw [box_cells ho']; exact hc _ _ h2
      have c3 : wr.cell? ⟨g, k * 4 + 3, none⟩ = some (.int .i64 L[k].p) := by rw [box_cells ho']; exact hc _ _ h3
      have zg := box_lt ho'
      have hIs := HI.out L[k] (List.getElem_mem hlt)
      have hi0 := hIs.2.2.1
      have hi1 := hIs.2.2.2.1
      have hnx := run_take_succ JS.empty 0 L k hlt hz
      have hbd := run_bad JS.empty 0 L k hlt hz
      have hal := allBytes_take L k hlt
      have hall := allBytes_take_le L (k + 1)
      have hge := bytes_ge L[k] hIs
      have hsm2 := small_take hsm hok L[k] ((0 : Int) + (allBytes (L.take k)).length)
      rw [Int.zero_add] at hnx hbd hsm2
      have hbt : (allBytes L).length ≤ 1000000 := by have := HS.out; rw [← this]; exact hl
      have hT := fun w' (h : RdAt B w' rb (JS.empty.run 0 (L.take k)).1) hg => jtakes_any B rb (allBytes (L.take k)).length (JS.empty.run 0 (L.take k)).1 L[k] (allBytes (L.take k)).length w' h hok hsm (by omega) (WalkArith.wf_i64 (by omega)) (by omega) hg
      have hBy := fun w' => bytes_any L[k] w' (by omega)
      have hblen : L[k].bytes.length ≤ 1000000 := by omega
      have hplen : (allBytes (L.take k)).length ≤ 1000000 := by omega
      generalize hq2 : (JS.empty.run 0 (L.take k)).1.take L[k] (allBytes (L.take k)).length = q2 at *
      have hsm3 : q2.1.Small (allBytes (L.take (k + 1))).length := hsm2.more (by omega)
      have HT := Lib.hid hT
      have HBy := Lib.hid hBy
      have HN := Lib.hid hnx
      have HBD := Lib.hid hbd
      have HAL := Lib.hid hal
      have HSM := Lib.hid hsm3
      have HRK := Lib.hid hR
      clear hT hBy hnx hbd hal hsm3 hsm2 hq2 h0 h1 h2 h3 hc hsm hR hz hok hge hall ho ho' hIs hrd2
      obtain ⟨S2, C2⟩ := q2
      generalize L[k] = x at *
      generalize (allBytes (L.take k)).length = N at *
      obtain ⟨xt, xi, xc, xp⟩ := x
      simp only at *
      go_wp2_with fail
      have W4 : Below wr.heap.size wr (wr.alloc (.cells #[.int .i64 xt, .int .i64 xi, .string (bs xc), .int .i64 xp] 33)) := below_alloc _ _
      refine (HT.out _ (HRK.out.keeps W4) (HG.out _ (hW.trans (W4.mono (by have := hW.size; omega))))).mono ?_
      rintro e w4 ⟨rfl, hr4, hb4, hk4⟩
      have W5 : Below B w w4 := (hW.trans (W4.mono (by rw [← hB]; exact hB ▸ hW.size))).trans hb4
      have K5 : Keeps w2 w4 := (hkp.trans (keeps_below W4)).trans hk4
      by_cases hC : C2 = 0
      · subst hC
        simp only [errV_zero]
        have hbox : w4.heap[wr.heap.size]? = some (.cells #[.int .i64 xt, .int .i64 xi, .string (bs xc), .int .i64 xp] 33) := hk4 _ _ _ (heap_alloc_new wr _)
        have r0 := box_cells hbox 0
        have r1 := box_cells hbox 1
        have r2 := box_cells hbox 2
        have r3 := box_cells hbox 3
        have zr := box_lt hbox
        clear hb4 hk4 c0 c1 c2 c3 zg HT HRK hkp hW
        go_wp2_with fail
        refine (HBy.out _).mono ?_
        rintro e w5 ⟨rfl, hb5⟩
        go_wp2_with fail
        go_roundw
        case rel =>
          have hn := HN.out
          simp only [if_true] at hn
          refine ⟨k + 1, by omega, by go_num, ?_, ?_, ?_, ?_, W5.trans (hb5.mono (by rw [← hB]; exact hB ▸ W5.size)), K5.trans (keeps_below hb5)⟩
          · rw [HAL.out]; go_num
          · rw [hn]; exact hr4.keeps hb5
          · rw [hn]
          · rw [hn]; exact HSM.out
        case measure => simp [intOf]; omega
      · rw [errV_num hC]
        clear hb4 hk4 c0 c1 c2 c3 zg HT HRK hkp hW
        have hb := HBD.out hC
        go_wp2_with fail
        exact bodyPost_ret (v := .tuple #[.pointer none, eV C2]) (by simp [results, Tryd.results18, go_sem]) rfl ⟨by rw [hb]; exact .inl ⟨hC, rfl⟩, by rw [hB]; exact W5⟩
    · obtain rfl : k = L.length := by omega
      rw [List.take_length] at hR hz
      go_wp2_with fail
      refine (as_nil _ _).mono ?_
      rintro e w4 ⟨rfl, rfl⟩
      go_wp2_with fail
      refine bodyPost_ret (v := .tuple #[.pointer (some ⟨rb, 0, none⟩), .nilIface]) (by simp [results, Tryd.results18, go_sem]) rfl ⟨?_, ?_⟩
      · rw [hz]
        refine .inr ⟨rfl, rb, rfl, ?_⟩
        rw [hB]; exact hR.keeps (below_alloc _ _)
      · rw [hB]; exact hW.trans ((below_alloc _ _).mono (by rw [← hB]; exact hB ▸ hW.size))
end Go.Proofs.YtniflggmfegnfaaDoor

/- What judge.Read, Right tell of bytes that are whole records. Conditions: the records are right ones, a million bytes at most; the package errors' variable. -/
namespace Go.Proofs.YtniflggmfegnfaaDoor
open Go.RowKit

theorem feed_recs (L : List Rec) (hI : ∀ x ∈ L, x.Is) : cutFeed 65535 false [] (allBytes L) = (L, 0, [], false) := by
  have h := cutRun_recs 65535 L [] (fun r hr => ⟨hI r hr, by have := (hI r hr).2.2.2.2.1; omega⟩)
  have h2 : cutNext 65535 [] = (Rec.zero, [], 11) := by kernel_rfl
  have h3 : cutRun 65535 [] = ([], 0, [], false) := cutRun_lacks (by rw [h2])
  rw [List.append_nil, h3] at h
  show cutRun 65535 ([] ++ allBytes L) = _
  rw [List.nil_append, h]
  simp [glueC]
theorem jread_any (L : List Rec) (w : World) (hI : ∀ x ∈ L, x.Is) (hl : (allBytes L).length ≤ 1000000) (hg : w.cell? ⟨0, 0, none⟩ = some errTypeV) :
    Calls Tryd.prog 18 #[.string (bs (allBytes L))] w fun e w' => RdRes w.heap.size (JS.empty.run 0 L).1 (JS.empty.run 0 L).2 e w' ∧ Below w.heap.size w w' :=
  jread_raw (allBytes L) L w (feed_recs L hI) rfl hI hl hg

/-- A row of requests, and their pairs. -/
def SntRow (B : Nat) (w : World) (v : Value) (l : List Snt) : Prop := ∃ rows : List (Snt × Value), l = rows.map (·.1) ∧ w.ownsRow B 40 5 v rows.length (sntCells rows) ∧ ∀ q ∈ rows, w.ownsRow B 29 2 q.2 q.1.pairs.length (q.1.pairs.flatMap pairCells)
theorem SntRow.keeps {B : Nat} {w w' : World} {v : Value} {l : List Snt} (h : SntRow B w v l) (hb : Below w.heap.size w w') : SntRow B w' v l := by
  obtain ⟨rows, h1, h2, h3⟩ := h
  exact ⟨rows, h1, own_kept h2 hb, fun q hq => own_kept (h3 q hq) hb⟩

set_option maxRecDepth 100000 in
set_option maxHeartbeats 2000000 in
theorem jRead_any (L : List Rec) (w : World) (hI : ∀ x ∈ L, x.Is) (hl : (allBytes L).length ≤ 1000000) (hg : w.cell? ⟨0, 0, none⟩ = some errTypeV) :
    Calls Tryd.prog 7 #[.string (bs (allBytes L))] w fun e w' => (((JS.empty.run 0 L).2 ≠ 0 ∧ e = .returned (.tuple #[.slice none 0 0, eV (JS.empty.run 0 L).2])) ∨ ((JS.empty.run 0 L).2 = 0 ∧ ∃ v, e = .returned (.tuple #[v, .nilIface]) ∧ SntRow w.heap.size w' v (JS.empty.run 0 L).1.l)) ∧ Below w.heap.size w w' := by
  have HR := Lib.hid (fun w hg => jread_any L w hI hl hg)
  generalize allBytes L = s at *
  generalize JS.empty.run 0 L = R at *
  obtain ⟨S, C⟩ := R
  simp only at *
  clear hI
  go_enter Tryd.func7, Tryd.ntmps7
  go_wp2_with fail
  refine (HR.out _ hg).mono ?_
  rintro e w1 ⟨⟨hC, rfl⟩ | ⟨hC, rb, rfl, hrd⟩, hb⟩
  · go_wp2_with fail
    exact bodyPost_ret (v := .tuple #[.slice none 0 0, eV C]) (by simp [results, Tryd.results7, go_sem]) rfl ⟨.inl ⟨hC, rfl⟩, hb⟩
  · obtain ⟨_, vl, mb, vf, rows, f, hbx, hh⟩ := hrd
    obtain ⟨a, cap, rfl⟩ := own_slice hh.row
    have c0 := box_cells hbx 0
    have z := box_lt hbx
    go_wp2_with fail
    exact bodyPost_ret (v := .tuple #[.slice a rows.length cap, .nilIface]) (by simp [results, Tryd.results7, go_sem]) rfl ⟨.inr ⟨hC, _, rfl, rows, hh.l, hh.row, hh.pairs⟩, hb⟩
set_option maxRecDepth 100000 in
set_option maxHeartbeats 2000000 in
theorem jRight_any (L : List Rec) (w : World) (hI : ∀ x ∈ L, x.Is) (hl : (allBytes L).length ≤ 1000000) (hg : w.cell? ⟨0, 0, none⟩ = some errTypeV) :
    Calls Tryd.prog 12 #[.string (bs (allBytes L))] w fun e w' => e = .returned (.bool ((JS.empty.run 0 L).2 == 0)) ∧ Below w.heap.size w w' := by
  have HR := Lib.hid (fun w hg => jread_any L w hI hl hg)
  generalize allBytes L = s at *
  generalize JS.empty.run 0 L = R at *
  obtain ⟨S, C⟩ := R
  simp only at *
  clear hI
  by_cases h0 : C = 0
  · subst h0
    go_enter Tryd.func12, Tryd.ntmps12
    go_wp2_with fail
    refine (HR.out _ hg).mono ?_
    rintro e w1 ⟨⟨hC, rfl⟩ | ⟨hC, rb, rfl, hrd⟩, hb⟩
    · exact absurd rfl hC
    · go_wp2_with fail
      go_ret
      exact ⟨rfl, hb⟩
  · have q : (C == 0) = false := by simpa using h0
    rw [q]
    clear q
    go_enter Tryd.func12, Tryd.ntmps12
    go_wp2_with fail
    refine (HR.out _ hg).mono ?_
    rintro e w1 ⟨⟨hC, rfl⟩ | ⟨hC, rb, rfl, hrd⟩, hb⟩
    · go_wp2_with fail
      go_ret
      exact ⟨rfl, hb⟩
    · exact absurd hC h0
end Go.Proofs.YtniflggmfegnfaaDoor

/- Maps from int to int, as functions: look-up, store; the store in a region that draws its order. No condition. -/
namespace Go.Proofs.YtniflggmfegnfaaDoor
open Go.RowKit Go.WideElems

def intElem : Value → Option (DataW Unit × List MemPlace)
  | .int .i64 a => some (.lit (.int .i64 a), [])
  | _ => none
theorem intElem_inv {v : Value} {a : Int} {ps : List MemPlace} (h : intElem v = some (.lit (.int .i64 a), ps)) : v = .int .i64 a := by
  unfold intElem at h
  split at h
  · simp at h; rw [h.1]
  · cases h
/-- Block mb is a map of at most n entries; f tells what stands at a key. -/
def IMap (w : World) (mb n : Nat) (f : Int → Option Int) : Prop :=
  ∃ D : DataW Unit, w.ownsMap Tryd.prog 3 intElem mb n D ∧ ∀ k, (Lit.int .i64 k).wf = true → Maps.has D (.int .i64 k) = (f k).isSome ∧ D.atKey (.int .i64 k) (.lit (.int .i64 0)) = .lit (.int .i64 ((f k).getD 0))
theorem IMap.made (w : World) : IMap (w.alloc (.map #[] 0)) w.heap.size 0 (fun _ => none) :=
  ⟨_, World.ownsMap_made w _ _ _, fun k _ => ⟨rfl, rfl⟩⟩
theorem IMap.lt {w : World} {mb n : Nat} {f : Int → Option Int} (h : IMap w mb n f) : mb < w.heap.size := by obtain ⟨D, h1, _⟩ := h; exact h1.lt
theorem IMap.step {w w' : World} {mb n : Nat} {f : Int → Option Int} {M : Nat → Prop} (h : IMap w mb n f) (hs : Rg.Step M w w') (hM : ¬ M mb) : IMap w' mb n f := by
  obtain ⟨D, ⟨es, clock, hb, r⟩, h2⟩ := h
  exact ⟨D, ⟨es, clock, by rw [hs.block mb (box_lt hb) hM]; exact hb, r⟩, h2⟩
theorem IMap.kept {w w' : World} {mb n : Nat} {f : Int → Option Int} (h : IMap w mb n f) (hs : Below w.heap.size w w') : IMap w' mb n f :=
  h.step (Rg.below_step (M := fun _ => False) hs rfl) id
theorem IMap.look_ok {w : World} {mb n : Nat} {f : Int → Option Int} {t : TypeId} (h : IMap w mb n f) (ht : Tryd.prog.underlying t = some (.map 3 3)) (hz : (zeroValue 3).run Tryd.prog w = .ok (.int .i64 0) w) {k : Int} (hk : (Lit.int .i64 k).wf = true) :
    (Instr.lookup t (.map (some mb)) (.int .i64 k) true).run Tryd.prog w = .ok (.tuple #[.int .i64 ((f k).getD 0), .bool (f k).isSome]) w := by
  obtain ⟨D, h1, h2⟩ := h
  obtain ⟨v, ps, hrun, hv⟩ := h1.look_ok int_law ht hz (zd := .lit (.int .i64 0)) (zp := []) rfl (int_key hk)
  rw [(h2 k hk).2] at hv
  rw [hrun, intElem_inv hv, (h2 k hk).1]
theorem IMap.update {w : World} {mb n : Nat} {f : Int → Option Int} {t : TypeId} (h : IMap w mb n f) (ht : Tryd.prog.underlying t = some (.map 3 3)) (hn : n < maxLen) {k : Int} (hk : (Lit.int .i64 k).wf = true) (a : Int) :
    ∃ w', (Instr.mapUpdate t (.map (some mb)) (.int .i64 k) (.int .i64 a)).run Tryd.prog w = .ok () w' ∧ IMap w' mb (n + 1) (fun x => if x = k then some a else f x) ∧ Only mb w w' := by
  obtain ⟨D, h1, h2⟩ := h
  obtain ⟨w', hrun, h3, h4⟩ := h1.update int_law ht hn (int_key hk) (val := .int .i64 a) (d := .lit (.int .i64 a)) (ps := []) rfl
  refine ⟨w', hrun, ⟨_, h3, fun x hx => ?_⟩, ⟨h4.os, h4.tape, h4.output, h4.size, fun i hi hne => h4.block i hi (by simpa using hne)⟩⟩
  by_cases e : x = k
  · subst e
    dsimp only
    rw [if_pos rfl]
    exact ⟨Maps.has_put_same h1.isMap (isKey_int x) _, Maps.atKey_put_same h1.isMap (isKey_int x) _ _⟩
  · dsimp only
    rw [if_neg e]
    have hne : Lit.int .i64 x ≠ Lit.int .i64 k := fun h => e (by simpa using h)
    exact ⟨(Maps.has_put_other hne _).trans (h2 x hx).1, (Maps.atKey_put_other hne _ _).trans (h2 x hx).2⟩
namespace Rg
def MapIs (mb n : Nat) (f : Int → Option Int) : Value → (Nat → Prop) → World → Prop := fun _ F w => IMap w mb n f ∧ ∀ j, F j ↔ j = mb
theorem stable_mapIs {w0 : World} {own0 : Nat → Nat → Prop} {mb n : Nat} {f : Int → Option Int} {l : List Fact} (h : ∀ φ ∈ l, Stable w0 own0 φ) : ∀ φ ∈ Fact.any (MapIs mb n f) :: l, Stable w0 own0 φ := fun φ hm => by
  rcases List.mem_cons.1 hm with rfl | hm
  · rintro v F M w w' ⟨hm, hF⟩ hs hM
    exact ⟨hm.step hs (fun hx => (hM mb hx).1 ((hF mb).2 rfl)), hF⟩
  · exact h φ hm
section
variable {P : Program} {ops : Array Oper} {w0 : World} {own0 : Nat → Nat → Prop} {cons : Nat → List Nat} {facts : List Fact} {i : Nat} {o : Oper} {vs : Nat → Value} {a : Act} {os : List Oper} {φs : List Fact}
theorem Chain.mapSet {mb n : Nat} {f : Int → Option Int} {k c : Int} {t : TypeId} (m x v : Operand) (hop : o.op = Op.mapUpdate t m x v) (hm : a.eval m = .map (some mb)) (hx : a.eval x = .int .i64 k) (hv : a.eval v = .int .i64 c) (ht : Tryd.prog.underlying t = some (.map 3 3))
    (hP : P = Tryd.prog) (hmap : IMap w0 mb n f) (hn1 : n < maxLen) (hk : (Lit.int .i64 k).wf = true) (ho : own0 i mb) (hg : Region.wanted o (yielded ops a.tmps) = true)
    (hr : Chain P ops w0 own0 cons facts vs os φs (i + 1) (a.put o.dst (vs i))) : Chain P ops w0 own0 cons facts vs (o :: os) (.any (MapIs mb (n + 1) (fun y => if y = k then some c else f y)) :: φs) i a := by
  subst hP
  refine ⟨?_, hr⟩
  intro F w K hp hK
  rw [if_pos hg]
  have hmw : IMap w mb n f := by
    obtain ⟨D, ⟨es, cl, hb, r⟩, h2⟩ := hmap
    exact ⟨D, ⟨es, cl, by rw [hp.mine mb ho]; exact hb, r⟩, h2⟩
  obtain ⟨w', hrun, hm', hon⟩ := hmw.update ht hn1 hk c
  unfold Oper.wp
  simp only [execOp, hop, hm, hx, hv, Sem.run_bind, hrun, Result.andThen_ok, Sem.run_pure]
  refine hK undef w' ⟨fun j => j = mb, hon.mono (fun j _ hj => .inl (by rw [hj]; exact ho)), ⟨hm', fun _ => Iff.rfl⟩, ?_⟩
  rintro j rfl
  exact ⟨hm'.lt, .inr (.inl ho)⟩
end
end Rg
end Go.Proofs.YtniflggmfegnfaaDoor

/- What judge.Reuse tells of bytes that are whole records. Conditions: the records are right ones, a million bytes at most; the package errors' variable. -/
namespace Go.Proofs.YtniflggmfegnfaaDoor
open Go.RowKit

def markCells (m : Int × Int) : List Value := [.int .i64 m.1, .int .i64 m.2]
/-- A mark lies between. -/
def marked (i a b : Int) (m : Int × Int) : Bool := m.1 == i && (decide (a ≤ m.2) && decide (m.2 ≤ b))
def reuseOk (ends : List (Int × Int)) (o : Option Int) (i b : Int) : Bool := !o.isSome || ends.any (marked i (o.getD 0) b)
def reuseRun (ends : List (Int × Int)) (last : Int → Option Int) : List (Int × Int) → Bool
  | [] => true
  | (i, b) :: l => if reuseOk ends (last i) i b then reuseRun ends (fun k => if k = i then some b else last k) l else false

theorem zero_int (w : World) : (zeroValue 3).run Tryd.prog w = .ok (.int .i64 0) w := by kernel_rfl


set_option maxRecDepth 100000 in
set_option maxHeartbeats 8000000 in
theorem jReuse_any (L : List Rec) (ends : List (Int × Int)) (v : Value) (w : World) (hI : ∀ x ∈ L, x.Is) (hl : (allBytes L).length ≤ 1000000) (hg : w.cell? ⟨0, 0, none⟩ = some errTypeV) (hR : Reads w v 2 ends.length (ends.flatMap markCells))
    (hwf : ∀ s ∈ (JS.empty.run 0 L).1.l, (Lit.int .i64 s.id).wf = true) (hnl : (JS.empty.run 0 L).1.l.length ≤ 1000000) :
    Calls Tryd.prog 8 #[.string (bs (allBytes L)), v] w fun e w' => e = .returned (.bool ((JS.empty.run 0 L).2 == 0 && reuseRun ends (fun _ => none) (((JS.empty.run 0 L).1.l.map (·.id)).zip (JS.empty.run 0 L).1.frm))) ∧ Below w.heap.size w w' := by
  have hok : (JS.empty.run 0 L).1.Ok := ok_run ok_empty _ _
  have HRD := Lib.hid (fun w hg => jread_any L w hI hl hg)
  have hlm := hR.2.1
  unfold maxLen at hlm
  obtain ⟨a, capv, rfl, h⟩ := hR.opened (fun _ _ => rfl) (by decide)
  have HH := Lib.hid h
  clear hR h
  generalize allBytes L = s at *
  generalize JS.empty.run 0 L = R at *
  obtain ⟨S, C⟩ := R
  simp only at *
  clear hI
  have hmm := @run_makeMap Tryd.prog
  by_cases h0 : C = 0
  case neg =>
    have q : (C == 0) = false := by simpa using h0
    rw [q]
    simp only [Bool.false_and]
    clear q
    go_enter Tryd.func8, Tryd.ntmps8
    go_wp2_with fail
    refine (HRD.out _ hg).mono ?_
    rintro e w1 ⟨⟨hC, rfl⟩ | ⟨hC, rb, rfl, hrd⟩, hb⟩
    · go_wp2_with fail
      go_ret
      exact ⟨rfl, hb⟩
    · exact absurd hC h0
  subst h0
  simp only [BEq.rfl, Bool.true_and]
  have hRun : reuseRun ends (fun _ => none) ((S.l.map (·.id)).zip S.frm) = reuseRun ends (fun _ => none) (((S.l.map (·.id)).zip S.frm).drop 0) := by rw [List.drop_zero]
  generalize hres : reuseRun ends (fun _ => none) ((S.l.map (·.id)).zip S.frm) = res at *
  clear hres
  go_enter Tryd.func8, Tryd.ntmps8
  go_wp2_with fail
  refine (HRD.out _ hg).mono ?_
  rintro e w1 ⟨⟨hC, rfl⟩ | ⟨hC, rb, rfl, hrd⟩, hb⟩
  · exact absurd rfl hC
  obtain ⟨_, vl, mb, vf, rows, f, hbx, hh⟩ := hrd
  obtain ⟨va, cap, rfl⟩ := own_slice hh.row
  obtain ⟨vfa, vfc, rfl⟩ := own_slice hh.frm
  have c0 := box_cells hbx 0
  have zb := box_lt hbx
  have hlr : S.l.length = rows.length := by rw [hh.l]; simp
  have hlf : S.frm.length = rows.length := by rw [hok.1, hlr]
  have hfrow : ∀ k (h : k < rows.length), ∃ gf, vfa = some ⟨gf, 0, none⟩ ∧ gf < w1.heap.size ∧ w1.cell? ⟨gf, k, none⟩ = some (.int .i64 (S.frm[k]'(by omega))) := by
    intro k h
    obtain ⟨gf, cf, hv, _, hgl, hc⟩ := own_open hh.frm (by omega)
    simp only [Value.slice.injEq, true_and] at hv
    obtain ⟨rfl, rfl⟩ := hv
    exact ⟨gf, rfl, hgl, hc k _ (by unfold intCells; rw [List.getElem?_map, List.getElem?_eq_getElem (by omega)]; rfl)⟩
  have hrow : ∀ k (h : k < rows.length), ∃ g, va = some ⟨g, 0, none⟩ ∧ g < w1.heap.size ∧ w1.cell? ⟨g, k * 5, none⟩ = some (.int .i64 rows[k].1.id) ∧ (∃ pa pn pc, w1.cell? ⟨g, k * 5 + 1, none⟩ = some (.slice pa pn pc)) ∧ w1.cell? ⟨g, k * 5 + 2, none⟩ = some (.string (bs rows[k].1.body)) ∧ w1.cell? ⟨g, k * 5 + 3, none⟩ = some (.bool rows[k].1.whole) ∧ w1.cell? ⟨g, k * 5 + 4, none⟩ = some (.bool rows[k].1.cut) := by
    intro k h
    obtain ⟨g, cg, cur, hv, _, hgl, ho, s0, s1, s2, s3, s4⟩ := hh.obj (List.getElem?_eq_getElem h)
    simp only [Value.slice.injEq, true_and] at hv
    obtain ⟨rfl, rfl⟩ := hv
    obtain ⟨pa, pc, hp⟩ := own_slice (hh.pairs rows[k] (List.getElem_mem h))
    rw [hp] at s1
    exact ⟨g, rfl, hgl, s0, ⟨pa, _, pc, s1⟩, s2, s3, s4⟩
  have hidk : ∀ k (h : k < rows.length), (Lit.int .i64 rows[k].1.id).wf = true := fun k h => hwf _ (by rw [hh.l]; exact List.mem_map.2 ⟨rows[k], List.getElem_mem h, rfl⟩)
  have hzip : ∀ k (h : k < rows.length), ((S.l.map (·.id)).zip S.frm).drop k = (rows[k].1.id, S.frm[k]'(by omega)) :: ((S.l.map (·.id)).zip S.frm).drop (k + 1) := by
    intro k h
    rw [List.drop_eq_getElem_cons (by simp; omega)]
    congr 1
    simp [hh.l]
  have hend : ((S.l.map (·.id)).zip S.frm).drop rows.length = [] := by
    rw [List.drop_eq_nil_iff]; simp; omega
  have HF := Lib.hid hfrow
  have HRW := Lib.hid hrow
  have HID := Lib.hid hidk
  have HZ := Lib.hid hzip
  have HE := Lib.hid hend
  have hn6 : rows.length ≤ 1000000 := by omega
  clear hfrow hrow hidk hzip hend hh hwf hok hlr hnl
  rw [hlf] at hbx
  generalize ((S.l.map (·.id)).zip S.frm) = Z at *
  go_wp2_with fail
  have him := IMap.made w1
  have W2 : Below w1.heap.size w1 (w1.alloc (.map #[] 0)) := below_alloc _ _
  generalize hmb : w1.heap.size = M at *
  go_loopw [28] (fun i wr => ∃ (k : Nat) (last : Int → Option Int), k ≤ rows.length ∧ i = .int .i64 k ∧ Below M w1 wr ∧ M < wr.heap.size ∧ IMap wr M k last ∧ res = reuseRun ends last (Z.drop k)) (fun i _ => rows.length - (intOf i).toNat)
  case atStart => exact ⟨0, fun _ => none, Nat.zero_le _, rfl, W2, by rw [← hmb]; simp, him, hRun⟩
  case round =>
    obtain ⟨k, last, hk, rfl, hW, hMw, hm, hrs⟩ := hrel
    by_cases hlt : k < rows.length
    · obtain ⟨g, rfl, hgl, s0, ⟨pa, pn, pc, s1⟩, s2, s3, s4⟩ := HRW.out k hlt
      obtain ⟨gf, rfl, hgfl, t0⟩ := HF.out k hlt
      have hidw := HID.out k hlt
      rw [HZ.out k hlt] at hrs
      have hlt2 : k < S.frm.length := by omega
      generalize S.frm[k] = fr at *
      generalize rows[k].1 = sk at *
      obtain ⟨sid, sp, sb, sw, sc⟩ := sk
      try simp only at *
      rw [← hW.cell hgl] at s0 s1 s2 s3 s4
      rw [← hW.cell hgfl] at t0
      have hbx' : wr.heap[rb]? = some (readObj (.slice (some ⟨g, 0, none⟩) rows.length cap) mb (.slice (some ⟨gf, 0, none⟩) rows.length vfc)) := by rw [hW.block rb zb]; exact hbx
      have zg := Nat.lt_trans hgl hMw
      have zgf := Nat.lt_trans hgfl hMw
      have zb' := Nat.lt_trans zb hMw
      have hL : ∀ o, (Instr.lookup 63 (.map (some M)) (.int .i64 sid) true).run Tryd.prog (wr.alloc o) = .ok (.tuple #[.int .i64 ((last sid).getD 0), .bool (last sid).isSome]) (wr.alloc o) := fun o => (hm.kept (below_alloc wr o)).look_ok Tryd.underlying63 (zero_int _) hidw
      have hrs2 : res = if (!(last sid).isSome || ends.any (marked sid ((last sid).getD 0) fr)) then reuseRun ends (fun k => if k = sid then some fr else last k) (Z.drop (k + 1)) else false := hrs
      clear hrs
      generalize (last sid).getD 0 = fv at *
      generalize (last sid).isSome = had at *
      have HRS := Lib.hid hrs2
      clear hrs2
      have hq1 : (decide ((k : Int) < (rows.length : Int))) = true := by simp; omega
      go_wp2_with fail
      obtain ⟨u, hu⟩ : ∃ u, u = wr.alloc (.cells #[.int .i64 sid, .slice pa pn pc, .string (bs sb), .bool sw, .bool sc] 40) := ⟨_, rfl⟩
      have hxo : u.heap[wr.heap.size]? = some (.cells #[.int .i64 sid, .slice pa pn pc, .string (bs sb), .bool sw, .bool sc] 40) := by rw [hu]; exact heap_alloc_new wr _
      have Wu : Below wr.heap.size wr u := by rw [hu]; exact below_alloc _ _
      have hmu := hm.kept Wu
      have hbu := kept hbx' Wu
      rw [← Wu.cell zgf] at t0
      have zgu : gf < u.heap.size := Nat.lt_of_lt_of_le zgf Wu.size
      rw [← hu]
      clear hL hu s0 s1 s2 s3 s4 hm hbx' zg zgf zb'
      have hxm : wr.heap.size ≠ M := by omega
      have hrm : rb ≠ M := by omega
      have hgm : gf ≠ M := by omega
      have hS : ∀ wx, Rg.Step (fun k => ∃ j, j = 10 ∧ k = M) u wx → wx.cell? ⟨wr.heap.size, 0, none⟩ = some (.int .i64 sid) ∧ wx.cell? ⟨rb, 2, none⟩ = some (.slice (some ⟨gf, 0, none⟩) rows.length vfc) ∧ wx.cell? ⟨gf, k, none⟩ = some (.int .i64 fr) ∧ wr.heap.size < wx.heap.size ∧ rb < wx.heap.size ∧ gf < wx.heap.size := by
        intro wx hs
        have h1 := (hs.block _ (box_lt hxo) (by rintro ⟨_, _, h⟩; exact hxm h)).trans hxo
        have h2 := (hs.block rb (box_lt hbu) (by rintro ⟨_, _, h⟩; exact hrm h)).trans hbu
        refine ⟨box_cells h1 0, box_cells h2 2, ?_, box_lt h1, box_lt h2, Nat.lt_of_lt_of_le zgu hs.size⟩
        rw [World.cell?_of_block (hs.block gf zgu (by rintro ⟨_, _, h⟩; exact hgm h))]
        exact t0
      refine Rg.region1 88 [.val ?_, .val ?_, .val ?_, .val ?_, .val ?_, .val ?_, .val ?_, .val ?_, .val ?_, .val ?_, .any (Rg.MapIs M (k + 1) (fun y => if y = sid then some fr else last y))] [] (fun j k => j = 10 ∧ k = M) (by kernel_rfl) (by decide +kernel) (by simp) rfl (by simp) ?hstab ?hown ?hdis ?hchain ?hend
      case hstab => exact Rg.stable_val (Rg.stable_val (Rg.stable_val (Rg.stable_val (Rg.stable_val (Rg.stable_val (Rg.stable_val (Rg.stable_val (Rg.stable_val (Rg.stable_val (Rg.stable_mapIs (Rg.stable_nil)))))))))))
      case hchain =>
        intro vs
        -- 0: slot 40 := Op.move t7
        refine Rg.Chain.pure rfl (fun w => by go_simp; (try go_ints); with_reducible rfl) ?_
        simp only [Act.put, List.setIfInBounds_toArray, List.set_cons_succ, List.set_cons_zero]
        -- 1: slot 41 := Op.fieldAddr 40 t9 0
        refine Rg.Chain.pure rfl (fun w => by go_simp; (try go_ints); with_reducible rfl) ?_
        simp only [Act.put, List.setIfInBounds_toArray, List.set_cons_succ, List.set_cons_zero]
        -- 2: slot 42 := Op.load 3 t41
        refine Rg.Chain.read rfl (fun wx hs => by obtain ⟨q0, q1, q2, q3, q4, q5⟩ := hS wx hs; go_simp; with_reducible rfl) ?_
        simp only [Act.put, List.setIfInBounds_toArray, List.set_cons_succ, List.set_cons_zero]
        -- 3: slot 43 := Op.move t5
        refine Rg.Chain.pure rfl (fun w => by go_simp; (try go_ints); with_reducible rfl) ?_
        simp only [Act.put, List.setIfInBounds_toArray, List.set_cons_succ, List.set_cons_zero]
        -- 4: slot 44 := Op.nilCheck t43
        refine Rg.Chain.pure rfl (fun w => by go_simp; (try go_ints); with_reducible rfl) ?_
        simp only [Act.put, List.setIfInBounds_toArray, List.set_cons_succ, List.set_cons_zero]
        -- 5: slot 45 := Op.fieldAddr 62 t44 2
        refine Rg.Chain.pure rfl (fun w => by go_simp; (try go_ints); with_reducible rfl) ?_
        simp only [Act.put, List.setIfInBounds_toArray, List.set_cons_succ, List.set_cons_zero]
        -- 6: slot 46 := Op.load 60 t45
        refine Rg.Chain.read rfl (fun wx hs => by obtain ⟨q0, q1, q2, q3, q4, q5⟩ := hS wx hs; go_simp; with_reducible rfl) ?_
        simp only [Act.put, List.setIfInBounds_toArray, List.set_cons_succ, List.set_cons_zero]
        -- 7: slot 47 := Op.move t8
        refine Rg.Chain.pure rfl (fun w => by go_simp; (try go_ints); with_reducible rfl) ?_
        simp only [Act.put, List.setIfInBounds_toArray, List.set_cons_succ, List.set_cons_zero]
        -- 8: slot 48 := Op.indexAddr 60 t46 t47
        refine Rg.Chain.pure rfl (fun w => by go_simp; (try go_ints); with_reducible rfl) ?_
        simp only [Act.put, List.setIfInBounds_toArray, List.set_cons_succ, List.set_cons_zero]
        -- 9: slot 49 := Op.load 3 t48
        refine Rg.Chain.read rfl (fun wx hs => by obtain ⟨q0, q1, q2, q3, q4, q5⟩ := hS wx hs; go_simp; with_reducible rfl) ?_
        simp only [Act.put, List.setIfInBounds_toArray, List.set_cons_succ, List.set_cons_zero]
        -- 10: slot none := Op.mapUpdate 63 t40 t42 t49
        refine Rg.Chain.mapSet _ _ _ rfl rfl rfl rfl Tryd.underlying63 rfl hmu (by unfold maxLen; omega) hidw ⟨rfl, rfl⟩ rfl ?_
        simp only [Act.put]
        exact Rg.Chain.nil
      case hown => rintro j k ⟨_, rfl⟩; exact hmu.lt
      case hdis => rintro i j k ⟨rfl, _⟩ ⟨rfl, _⟩; rfl
      case hend =>
        intro vs F w3 hE
        have f10 := hE.fact 10 _ (Rg.kept 10 (by decide)) rfl
        obtain ⟨hm3, _⟩ := f10
        have hst : Rg.Step (fun k => k = M) u w3 := hE.step.mono (fun k _ hk => by obtain ⟨_, _, h⟩ := hk; exact h)
        have hxo3 : w3.heap[wr.heap.size]? = some (.cells #[.int .i64 sid, .slice pa pn pc, .string (bs sb), .bool sw, .bool sc] 40) := (hst.block _ (box_lt hxo) hxm).trans hxo
        have hbx3 : w3.heap[rb]? = some (readObj (.slice (some ⟨g, 0, none⟩) rows.length cap) mb (.slice (some ⟨gf, 0, none⟩) rows.length vfc)) := (hst.block rb (box_lt hbu) hrm).trans hbu
        have t3 : w3.cell? ⟨gf, k, none⟩ = some (.int .i64 fr) := by rw [World.cell?_of_block (hst.block gf zgu hgm)]; exact t0
        have W3 : Below M w1 w3 := (hW.trans (Wu.mono (Nat.le_of_lt hMw))).trans ⟨hst.os, hst.tape, hst.output, hst.size, fun i hi => hst.block i (Nat.lt_of_lt_of_le (Nat.lt_of_lt_of_le hi (Nat.le_of_lt hMw)) Wu.size) (by omega)⟩
        have zM3 : M < w3.heap.size := hm3.lt
        have zgf3 : gf < w3.heap.size := Nat.lt_of_lt_of_le zgu hst.size
        clear hE hS hst hxo hbu t0 hmu Wu hW
        simp only [Rg.finalAct, Rg.slot_val, Rg.slot_any, Act.put, List.setIfInBounds_toArray, List.set_cons_succ, List.set_cons_zero]
        generalize vs 10 = x10
        go_wp2_with fail
        go_loopw [54, 12] (fun j fb wr2 => ∃ q : Nat, q ≤ ends.length ∧ j = .int .i64 q ∧ fb = .bool (!had || (ends.take q).any (marked sid fv fr)) ∧ Below w3.heap.size w3 wr2) (fun j _ _ => ends.length - (intOf j).toNat)
        case atStart => exact ⟨0, Nat.zero_le _, rfl, by simp, Below.refl _ _⟩
        case round =>
          obtain ⟨q, hq, rfl, rfl, hW2⟩ := hrel
          have hxo4 := kept hxo3 hW2
          have hbx4 := kept hbx3 hW2
          have t4 := t3
          rw [← hW2.cell zgf3] at t4
          have x0 := box_cells hxo4 0
          have r2 := box_cells hbx4 2
          have zx4 := box_lt hxo4
          have zb4 := box_lt hbx4
          have zg4 := Nat.lt_of_lt_of_le zgf3 hW2.size
          by_cases hql : q < ends.length
          · obtain ⟨b, off, rfl, hbl, hc⟩ := HH.out (by omega)
            have e0 : w.cell? ⟨b, off + q * 2, none⟩ = some (.int .i64 ends[q].1) := hc q hql 0 _ rfl
            have e1 : w.cell? ⟨b, off + q * 2 + 1, none⟩ = some (.int .i64 ends[q].2) := hc q hql 1 _ rfl
            have hb1 : b < M := by rw [← hmb]; exact Nat.lt_of_lt_of_le hbl hb.size
            have hb3 : b < w3.heap.size := Nat.lt_trans hb1 zM3
            rw [← hb.cell hbl, ← W3.cell hb1, ← hW2.cell hb3] at e0 e1
            have zb5 := Nat.lt_of_lt_of_le hb3 hW2.size
            have hnext : (ends.take (q + 1)).any (marked sid fv fr) = ((ends.take q).any (marked sid fv fr) || marked sid fv fr ends[q]) := by
              rw [List.take_succ_eq_append_getElem hql, List.any_append]; simp
            have hmk : marked sid fv fr ends[q] = (ends[q].1 == sid && (decide (fv ≤ ends[q].2) && decide (ends[q].2 ≤ fr))) := rfl
            rw [hmk] at hnext
            generalize ends[q].1 = m1 at *
            generalize ends[q].2 = m2 at *
            have HNX := Lib.hid hnext
            clear hc hnext hmk
            generalize hfr : (!had || (ends.take q).any (marked sid fv fr)) = free at *
            have hnf : (!had || (ends.take (q + 1)).any (marked sid fv fr)) = (free || (m1 == sid && (decide (fv ≤ m2) && decide (m2 ≤ fr)))) := by rw [HNX.out, ← hfr, Bool.or_assoc]
            have HNF := Lib.hid hnf
            clear hfr hnf
            cases free with
            | true =>
              go_wp2_with fail
              go_quiet (fail)
              go_wp2_with fail
              go_roundw
              case rel => exact ⟨q + 1, by omega, by go_num, by rw [HNF.out]; rfl, below_drewN (below_later hW2 (below_alloc _ _)) _⟩
              case measure => simp [intOf]; omega
            | false =>
              by_cases h1 : m1 = sid
              · subst h1
                by_cases h2 : fv ≤ m2
                · have q2 : decide (fv ≤ m2) = true := by simpa using h2
                  by_cases h3 : m2 ≤ fr
                  · have q3 : decide (m2 ≤ fr) = true := by simpa using h3
                    clear h2 h3
                    go_wp2_with fail
                    go_quiet (fail)
                    go_wp2_with fail
                    go_roundw
                    case rel => exact ⟨q + 1, by omega, by go_num, by rw [HNF.out, q2, q3]; simp, below_drewN (below_later hW2 (below_alloc _ _)) _⟩
                    case measure => simp [intOf]; omega
                  · have q3 : decide (m2 ≤ fr) = false := by simpa using h3
                    clear h2 h3
                    go_wp2_with fail
                    go_quiet (fail)
                    go_wp2_with fail
                    go_roundw
                    case rel => exact ⟨q + 1, by omega, by go_num, by rw [HNF.out, q3]; simp, below_drewN (below_later hW2 (below_alloc _ _)) _⟩
                    case measure => simp [intOf]; omega
                · have q2 : decide (fv ≤ m2) = false := by simpa using h2
                  clear h2
                  go_wp2_with fail
                  go_quiet (fail)
                  go_wp2_with fail
                  go_roundw
                  case rel => exact ⟨q + 1, by omega, by go_num, by rw [HNF.out, q2]; simp, below_drewN (below_later hW2 (below_alloc _ _)) _⟩
                  case measure => simp [intOf]; omega
              · have q1 : (m1 == sid) = false := by simpa using h1
                clear h1
                go_wp2_with fail
                go_quiet (fail)
                go_wp2_with fail
                go_roundw
                case rel => exact ⟨q + 1, by omega, by go_num, by rw [HNF.out, q1]; simp, below_drewN (below_later hW2 (below_alloc _ _)) _⟩
                case measure => simp [intOf]; omega
          · obtain rfl : q = ends.length := by omega
            have hrs3 := HRS.out
            rw [List.take_length]
            generalize (!had || ends.any (marked sid fv fr)) = free at *
            have HRS3 := Lib.hid hrs3
            clear hrs3 HRS
            have W4 := W3.trans (hW2.mono (Nat.le_of_lt zM3))
            clear hql hq t3 t4 x0 r2 zx4 zb4 zg4 hxo4 hbx4
            cases free with
            | true =>
              go_wp2_with fail
              go_roundw
              case rel => exact ⟨k + 1, _, by omega, by go_num, W4, Nat.lt_of_lt_of_le zM3 hW2.size, hm3.kept hW2, HRS3.out⟩
              case measure => simp [intOf]; omega
            | false =>
              have hr : res = false := HRS3.out
              have HR2 := Lib.hid hr
              clear HRS3 hr
              go_wp2_with fail
              go_ret
              exact ⟨by rw [HR2.out]; rfl, below_later hb (by rw [hmb]; exact W4)⟩
    · obtain rfl : k = rows.length := by omega
      rw [HE.out] at hrs
      have hr : res = true := hrs
      subst hr
      go_wp2_with fail
      go_ret
      exact ⟨rfl, below_later hb (by rw [hmb]; exact hW)⟩
end Go.Proofs.YtniflggmfegnfaaDoor

/- What conduitlaw26.all tells: the records' bytes one behind the other. Conditions: right records, a million bytes at most. -/
namespace Go.Proofs.YtniflggmfegnfaaDoor
open Go.RowKit

set_option maxRecDepth 100000 in
set_option maxHeartbeats 2000000 in
theorem all_any (L : List Rec) (v : Value) (w : World) (hR : Reads w v 4 L.length (recCells L)) (hI : ∀ x ∈ L, x.Is) (hl : (allBytes L).length ≤ 1000000) :
    Calls Tryd.prog 9 #[v] w fun e w' => e = .returned (.string (bs (allBytes L))) ∧ Below w.heap.size w w' := by
  have hlen := hR.2.1
  unfold maxLen at hlen
  obtain ⟨a, cap, rfl, h⟩ := hR.opened (fun _ _ => rfl) (by decide)
  have HH := Lib.hid h
  have HI := Lib.hid hI
  clear hR h hI
  go_enter Tryd.func9, Tryd.ntmps9
  go_wp2_with fail
  simp only [show ({ data := #[] } : ByteArray) = bs [] from rfl]
  go_loopw [3, 4] (fun s i wr => ∃ k : Nat, k ≤ L.length ∧ i = .int .i64 k ∧ s = .string (bs (allBytes (L.take k))) ∧ Below w.heap.size w wr) (fun _ i _ => L.length - (intOf i).toNat)
  case atStart => exact ⟨0, Nat.zero_le _, rfl, rfl, Below.refl _ _⟩
  case round =>
    obtain ⟨k, hk, rfl, rfl, hW⟩ := hrel
    by_cases hlt : k < L.length
    · obtain ⟨b, off, rfl, hbl, hc⟩ := HH.out (by omega)
      have c0 : w.cell? ⟨b, off + k * 4, none⟩ = some (.int .i64 L[k].t) := hc k hlt 0 _ rfl
      have c1 : w.cell? ⟨b, off + k * 4 + 1, none⟩ = some (.int .i64 L[k].id) := hc k hlt 1 _ rfl
      have c2 : w.cell? ⟨b, off + k * 4 + 2, none⟩ = some (.string (bs L[k].c)) := hc k hlt 2 _ rfl
      have c3 : w.cell? ⟨b, off + k * 4 + 3, none⟩ = some (.int .i64 L[k].p) := hc k hlt 3 _ rfl
      rw [← hW.cell hbl] at c0 c1 c2 c3
      have hz := Nat.lt_of_lt_of_le hbl hW.size
      have hal := allBytes_take L k hlt
      have hall := allBytes_take_le L (k + 1)
      have hnx : allBytes (L.take (k + 1)) = allBytes (L.take k) ++ L[k].bytes := by rw [List.take_succ_eq_append_getElem hlt, allBytes_append]; simp [allBytes]
      have hcl := (HI.out _ (List.getElem_mem hlt)).2.2.2.2.1
      have HBy := Lib.hid (fun w => rbytes_any L[k] w (by omega))
      have hcat : ¬ 9223372036854775807 < (allBytes (L.take k)).length + L[k].bytes.length := by omega
      have HNX := Lib.hid hnx
      clear hc hnx
      generalize L[k].bytes = X at *
      generalize allBytes (L.take k) = A at *
      generalize L[k] = x at *
      obtain ⟨xt, xi, xc, xp⟩ := x
      simp only at *
      clear hal hcl
      go_wp2_with fail
      refine (HBy.out _).mono ?_
      rintro e w2 ⟨rfl, hb⟩
      go_wp2_with fail
      go_roundw
      case rel => exact ⟨k + 1, by omega, by go_num, by rw [HNX.out], below_later hW hb⟩
      case measure => simp [intOf]; omega
    · obtain rfl : k = L.length := by omega
      rw [List.take_length]
      go_wp2_with fail
      go_ret
      exact ⟨rfl, hW⟩
end Go.Proofs.YtniflggmfegnfaaDoor
