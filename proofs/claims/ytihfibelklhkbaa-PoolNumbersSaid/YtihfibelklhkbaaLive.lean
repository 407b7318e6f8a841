/- What (*mux.Mux).Live and (*pool.Pool).Conns compute: the keys of a map, in order. Conditions: at most eight ids, at most a thousand connections. -/
import Derived.Test.YtihfibelklhkbaaKeys
import Derived.Test.YtihfibelklhkbaaMuxHeap
namespace Go.Proofs.Ytihfibelklhkbaa
open Go.RowKit Go.Maps Go.Sort Go.Shelf

/-- The numbers 1 .. k. -/
def upto (k : Nat) : List Int := (List.range k).map (fun i : Nat => ((i : Nat) : Int) + 1)
theorem upto_len (k : Nat) : (upto k).length = k := by simp [upto]
theorem upto_mem (k : Nat) (x : Int) : x ∈ upto k ↔ 1 ≤ x ∧ x ≤ k := by
  simp only [upto, List.mem_map, List.mem_range]
  constructor
  · rintro ⟨i, hi, rfl⟩; omega
  · rintro ⟨h1, h2⟩; exact ⟨(x - 1).toNat, by omega, by omega⟩
theorem upto_sorted (k : Nat) : (upto k).Pairwise (· < ·) := by
  unfold upto
  rw [List.pairwise_map]
  exact List.pairwise_lt_range.imp (fun h => by omega)

theorem size_keys {D : DataW Unit} {L : List Int} (hD : IsMap D) (h : L.Perm (intKeys D)) : Maps.size D = L.length := by
  obtain ⟨es, rfl⟩ := hD
  rw [h.length_eq]
  simp [Maps.size, intKeys]

theorem sortsA (m : Nat) : AnyZI.SortsIn Try.prog Try.sortedA_ren Fence.wide m :=
  ⟨fun blk off cap ss W hH hblk hsz => callsIn_wide.2 (AnyM.slices_Sort_int Try.sortA blk off cap ss W hH hblk hsz),
   fun p cap W => callsIn_wide.2 (AnyM.slices_Sort_int_none Try.sortA p cap W)⟩

set_option maxHeartbeats 4000000 in
theorem mlive_any (w : World) (m lb ids k : Nat) (h8 : k ≤ 8) (h : MuxAt w m lb ids k) :
    Calls Try.prog 10 #[.pointer (some ⟨m, 0, none⟩)] w fun e w' => ∃ v, e = .returned v ∧ w'.ownsRow w.heap.size 3 1 v k ((upto k).map (Value.int .i64)) ∧ Below w.heap.size w w' := by
  obtain ⟨⟨cb, hb⟩, f, hm, hin, hout⟩ := h
  have c1 := box_cells hb 1
  have z := box_lt hb
  obtain ⟨D0, hown, hL⟩ := hm.fits (upto_sorted k) (fun x hx => wf_small (by have := (upto_mem k x).1 hx; omega) (by have := (upto_mem k x).1 hx; omega)) (fun x _ => by
    rw [upto_mem]
    constructor
    · intro h; obtain ⟨b, hb⟩ := hin x h.1 h.2; rw [hb]; rfl
    · intro h; by_cases hx : 1 ≤ x ∧ x ≤ k
      · exact hx
      · rw [hout x hx] at h; cases h)
  have hsz := size_keys hown.isMap hL
  rw [upto_len] at hsz
  refine (callsIn_wide (n := 6)).1 ?_
  have hbl := hown.lt
  have hseq : SeqGives Fence.wide 2 Try.prog 33 #[.pointer (some ⟨w.heap.size, 0, none⟩)] encZ (fun ss => ss.Perm (intKeys D0)) (Maps.size D0) (w.alloc (.cells #[.map (some lb)] 55)) :=
    AnyZI.keys_gives (ρ := Try.keys0_ren) { Try.keys0 with } Fence.wide _ trivial rfl (by omega) w.heap.size lb k D0 _ (by simp) (by simp) (by
      obtain ⟨es, clock, hb, Ft, hs, hD⟩ := hown
      exact ⟨es, clock, (Below.heap_alloc _ _ lb hbl).trans hb, Ft, hs, hD⟩)
  have cK : ∀ mb W, CallsIn Fence.wide 5 Try.prog 21 #[.map mb] W fun e w' => e = .returned (.func (.func 33) #[] #[.pointer (some ⟨W.heap.size, 0, none⟩)]) ∧ w' = W.alloc (.cells #[.map mb] 55) := fun mb W => AnyZI.keys_in Try.keys0 Fence.wide 5 trivial rfl mb W
  have cS := AnyZI.sorted_in Try.sortedA Fence.wide 5 trivial trivial trivial trivial rfl (by omega) (sortsA _) (enters_of Try.func31 (by kernel_rfl) rfl) 33 #[.pointer (some ⟨w.heap.size, 0, none⟩)] trivial (enters_of Try.func33 (by kernel_rfl) rfl) _ _ (by rw [hsz]; unfold maxLen; omega) (by rw [hsz]; omega) _ hseq
  change CallsIn _ _ Try.prog 19 _ _ _ at cS
  refine callsIn_of_wp Try.func10 rfl trivial ?_ rfl
  have hfK : Fence.wide.fn 21 := trivial
  have hfS : Fence.wide.fn 19 := trivial
  simp only [Try.ntmps10, List.size_toArray, List.length_cons, List.length_nil, Nat.reduceAdd, Nat.reduceSub, Array.replicate_succ, Array.replicate_zero, List.push_toArray, List.append_toArray, List.nil_append, List.cons_append]
  gi_wp2_with (first
    | (gi_at_call 21; refine (cK _ _).mono ?_; rintro e w' ⟨rfl, rfl⟩)
    | (gi_at_call 19; refine cS.mono ?_; rintro e w' ⟨v, ss, rfl, hS, hrow, hnil, hb⟩))
  go_ret
  have hsort := sort_sorted (upto_sorted k) (hS.trans hL.symm)
  have hlen : ss.length = k := by rw [(hS.trans hL.symm).length_eq, upto_len]
  rw [hsort, hlen] at hrow
  exact ⟨v, rfl, ownsRow_base_a hrow (by simp), ((Below.refl _ w).alloc (Nat.le_refl _) _).trans (hb.mono (by simp))⟩
end Go.Proofs.Ytihfibelklhkbaa
