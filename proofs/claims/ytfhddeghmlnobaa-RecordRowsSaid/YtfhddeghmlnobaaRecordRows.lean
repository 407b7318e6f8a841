/- conduitlaw2.RecordRows answers true at every row of records. No condition. -/
import Derived.Test.YtfhddeghmlnobaaKnown2
import Derived.Test.YtfhddeghmlnobaaAid
import Derived.Test.YtfhddeghmlnobaaOpen
namespace Go.Proofs.Ytfhddeghmlnobaa
open Go.RowKit

/-- The records' bytes one behind the other. -/
def allB (rs : List Rec) : Bs := rs.flatMap Rec.bytes
theorem allB_cons (r : Rec) (rs : List Rec) : allB (r :: rs) = r.bytes ++ allB rs := by simp [allB]
theorem allB_take (rs : List Rec) (k : Nat) (h : k < rs.length) : allB (rs.take (k + 1)) = allB (rs.take k) ++ (rs[k]).bytes := by
  unfold allB
  rw [List.take_succ_eq_append_getElem h, List.flatMap_append, List.flatMap_cons, List.flatMap_nil, List.append_nil]
theorem allB_drop (rs : List Rec) (k : Nat) (h : k < rs.length) : allB (rs.drop k) = (rs[k]).bytes ++ allB (rs.drop (k + 1)) := by
  rw [List.drop_eq_getElem_cons h, allB_cons]
theorem bytes_le {r : Rec} (h : r.c.length ≤ 400) : r.bytes.length ≤ 700 := by
  by_cases hI : r.Is
  · have := bytes_length hI
    obtain ⟨_, _, _, _, _, _, _⟩ := hI
    omega
  · rw [bytes_none hI]; simp
theorem allB_le : ∀ (rs : List Rec), (∀ r ∈ rs, r.c.length ≤ 400) → (allB rs).length ≤ 700 * rs.length
  | [], _ => by simp [allB]
  | r :: rs, h => by
    have h1 := bytes_le (h r (by simp))
    have h2 := allB_le rs (fun q hq => h q (by simp [hq]))
    rw [allB_cons, List.length_append, List.length_cons]
    omega

theorem rr_many (a : Option Addr) (n cap : Nat) (w : World) (hn : 12 < n) (hm : n ≤ maxLen) :
    Calls Try.prog 7 #[.slice a n cap] w fun e w' => e = .returned (.bool true) ∧ Below w.heap.size w w' := by
  unfold maxLen at hm
  go_enter Try.func7, Try.ntmps7
  go_wp2_with (go_at_call 24; refine (known2 _).mono ?_; rintro e w1 ⟨rfl, hb⟩)
  go_ret
  exact ⟨rfl, hb⟩

set_option maxRecDepth 100000 in
set_option maxHeartbeats 4000000 in
theorem rr_main (b off cap : Nat) (rs : List Rec) (w : World) (hn : rs.length ≤ 12) (hR : Reads w (.slice (some ⟨b, off, none⟩) rs.length cap) 4 rs.length (rs.flatMap Rec.cells)) (hb : b < w.heap.size) (hF : ∀ r ∈ rs, r.Fit) :
    Calls Try.prog 7 #[.slice (some ⟨b, off, none⟩) rs.length cap] w fun e w' => e = .returned (.bool true) ∧ Below w.heap.size w w' := by
  have hcell : ∀ wr, Below w.heap.size w wr → ∀ k (h : k < rs.length), wr.cell? ⟨b, off + k * 4, none⟩ = some (.int .i64 rs[k].t) ∧ wr.cell? ⟨b, off + k * 4 + 1, none⟩ = some (.int .i64 rs[k].id) ∧ wr.cell? ⟨b, off + k * 4 + 2, none⟩ = some (.string (bs rs[k].c)) ∧ wr.cell? ⟨b, off + k * 4 + 3, none⟩ = some (.int .i64 rs[k].p) := by
    intro wr hbel k h
    have hk : rs[k]? = some rs[k] := List.getElem?_eq_getElem h
    refine ⟨?_, ?_, ?_, ?_⟩
    · rw [hbel.cell hb]; exact hR.at (fun _ _ => rfl) rfl hk (j := 0) rfl
    · rw [hbel.cell hb]; exact hR.at (fun _ _ => rfl) rfl hk (j := 1) rfl
    · rw [hbel.cell hb]; exact hR.at (fun _ _ => rfl) rfl hk (j := 2) rfl
    · rw [hbel.cell hb]; exact hR.at (fun _ _ => rfl) rfl hk (j := 3) rfl
  have HC := Lib.hid hcell
  clear hcell
  go_enter Try.func7, Try.ntmps7
  go_wp2_with fail
  refine (known2 _).mono ?_
  rintro e w1 ⟨rfl, W1⟩
  go_wp2_with fail
  go_loopw [3, 4] (fun s i wr => ∃ k : Nat, k ≤ rs.length ∧ i = .int .i64 k ∧ s = .string (bs (allB (rs.take k))) ∧ (∀ r ∈ rs.take k, r.c.length ≤ 400) ∧ Below w.heap.size w wr) (fun _ i _ => rs.length - (intOf i).toNat)
  case atStart => exact ⟨0, Nat.zero_le _, rfl, rfl, by simp, W1⟩
  case round =>
    clear W1
    obtain ⟨k, hk, rfl, rfl, hle, hW⟩ := hrel
    by_cases hlt : k < rs.length
    · obtain ⟨c0, c1, c2, c3⟩ := HC.out wr hW k hlt
      have hrk : rs[k].Fit := hF _ (List.getElem_mem hlt)
      obtain ⟨_, _, hcl, _⟩ := hrk
      by_cases h4 : 400 < rs[k].c.length
      · go_wp2_with fail
        go_ret
        exact ⟨rfl, hW⟩
      · have hts : allB (rs.take (k + 1)) = allB (rs.take k) ++ rs[k].bytes := allB_take rs k hlt
        have hlen := allB_le (rs.take k) hle
        have hlk : (rs.take k).length ≤ 12 := by rw [List.length_take]; omega
        have hbl := bytes_le (show rs[k].c.length ≤ 400 by omega)
        have hB := fun w => bytes_any rs[k] w hcl
        have HB := Lib.hid hB
        have HT := Lib.hid hts
        have hla : (allB (rs.take k)).length ≤ 8400 := by omega
        clear hB hts hlen hlk
        go_wp2_with fail
        refine (HB.out _).mono ?_
        rintro e w2 ⟨rfl, hb2⟩
        go_wp2_with fail
        go_roundw
        case rel =>
          refine ⟨k + 1, by omega, by go_num, by rw [HT.out], ?_, below_later hW hb2⟩
          rw [List.take_succ_eq_append_getElem hlt]
          intro r hr
          rcases List.mem_append.1 hr with hr | hr
          · exact hle r hr
          · simp at hr; subst hr; omega
        case measure => simp [intOf]; omega
    · obtain rfl : k = rs.length := by omega
      have hle' : ∀ r ∈ rs, r.c.length ≤ 400 := by rw [List.take_length] at hle; exact hle
      have HL := Lib.hid hle'
      clear hle hle' hlt hk
      go_wp2_with fail
      obtain ⟨wo, rfl⟩ : ∃ wo : World, wo = wr := ⟨_, rfl⟩
      go_loopw [3, 5] (fun s i wx => ∃ j : Nat, j ≤ rs.length ∧ i = .int .i64 j ∧ s = .string (bs (allB (rs.drop j))) ∧ Below w.heap.size w wx) (fun _ i _ => rs.length - (intOf i).toNat)
      case atStart => exact ⟨0, Nat.zero_le _, rfl, by rw [List.take_length]; rfl, hW⟩
      case round =>
        clear hW
        obtain ⟨j, hj, rfl, rfl, hW⟩ := hrel
        by_cases hlt : j < rs.length
        · obtain ⟨c0, c1, c2, c3⟩ := HC.out wr hW j hlt
          have hrk : rs[j].Fit := hF _ (List.getElem_mem hlt)
          have hcl := hrk.2.2.1
          clear hrk
          have hds := allB_drop rs j hlt
          have hS := fun w => is_any rs[j] w hcl
          by_cases hI : rs[j].Is
          · rw [decide_eq_true hI] at hS
            have hRd := fun w => read_any (allB (rs.drop j)) w
            have hbk := read_back hI (allB (rs.drop (j + 1)))
            rw [← hds] at hbk
            rw [hbk, errV_zero] at hRd
            have HS := Lib.hid hS
            have HR := Lib.hid hRd
            clear hS hRd hbk hds hI
            go_wp2_with fail
            refine (HS.out _).mono ?_
            rintro e w2 ⟨rfl, hb2⟩
            have hW2 := below_later hW hb2
            clear hb2 c0 c1 c2 c3
            go_wp2_with fail
            refine (HR.out _).mono ?_
            rintro e w3 ⟨rfl, hb3⟩
            have hW3 := below_later hW2 hb3
            clear hb3
            obtain ⟨c0, c1, c2, c3⟩ := HC.out w3 hW3 j hlt
            have hz3 : b < w3.heap.size := Nat.lt_of_lt_of_le hb hW3.size
            go_wp2_with fail
            go_quiet (fail)
            go_wp2
            go_roundw
            case rel => exact ⟨j + 1, by omega, by go_num, rfl, below_drewN (below_later hW3 (below_alloc _ _)) _⟩
            case measure => simp [intOf]; omega
          · rw [decide_eq_false hI] at hS
            rw [bytes_none hI, List.nil_append] at hds
            have HS := Lib.hid hS
            have HD := Lib.hid hds
            clear hS hds hI
            go_wp2_with fail
            refine (HS.out _).mono ?_
            rintro e w2 ⟨rfl, hb2⟩
            go_wp2_with fail
            go_roundw
            case rel => exact ⟨j + 1, by omega, by go_num, by rw [HD.out], below_later hW hb2⟩
            case measure => simp [intOf]; omega
        · obtain rfl : j = rs.length := by omega
          have he : allB (rs.drop rs.length) = [] := by rw [List.drop_length]; rfl
          go_wp2_with fail
          go_ret
          exact ⟨by rw [he]; rfl, hW⟩

theorem rr_none (a : Option Addr) (cap : Nat) (w : World) :
    Calls Try.prog 7 #[.slice a 0 cap] w fun e w' => e = .returned (.bool true) ∧ Below w.heap.size w w' := by
  go_enter Try.func7, Try.ntmps7
  go_wp2_with fail
  refine (known2 _).mono ?_
  rintro e w1 ⟨rfl, W1⟩
  go_wp2_with fail
  refine wp_loop_rounds 1 ?_
  rw [rounds_succ]
  go_wp2_with fail
  refine wp_loop_rounds 1 ?_
  rw [rounds_succ]
  go_wp2_with fail
  go_ret
  exact ⟨rfl, W1⟩

theorem rr_said (v : Value) (rs : List Rec) (w : World) (hR : Reads w v 4 rs.length (rs.flatMap Rec.cells)) (hF : ∀ r ∈ rs, r.Fit) :
    Calls Try.prog 7 #[v] w fun e w' => e = .returned (.bool true) ∧ Below w.heap.size w w' := by
  have hR' := hR
  obtain ⟨_, hm, a, cap, rfl, hcap, _, h⟩ := hR
  by_cases h12 : 12 < rs.length
  · exact rr_many a _ cap w h12 hm
  · by_cases h0 : rs.length = 0
    · rw [h0]; exact rr_none a cap w
    · obtain ⟨b, off, rfl, hc⟩ := h (by omega)
      have hk : rs[0]? = some rs[0] := List.getElem?_eq_getElem (by omega)
      have hc0 := hR'.at (fun _ _ => rfl) rfl hk (j := 0) rfl
      exact rr_main b off cap rs w (by omega) hR' (World.block_lt_of_cell? w _ hc0) hF
end Go.Proofs.Ytfhddeghmlnobaa
