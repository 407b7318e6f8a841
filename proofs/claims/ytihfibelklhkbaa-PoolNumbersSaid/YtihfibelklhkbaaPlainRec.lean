/- Laws on records as bytes: what is written is read, whatever is behind; cut off it lacks. No program. -/
import Derived.Test.YtihfibelklhkbaaPlain
namespace Go.Proofs.Ytihfibelklhkbaa

/-- The record in front. -/
def front (s : Bs) : Rec := ⟨at0 s 1, at0 s 2 * 256 + at0 s 3, (s.take (wholeN s - at0 s 6).toNat).drop 8, at0 s 6⟩

theorem recRead_ver {s : Bs} (h1 : ¬ s = []) (h2 : ¬ at0 s 0 = 1) : recRead s = (Rec.zero, s, 13) := by unfold recRead; rw [if_pos ⟨h1, h2⟩]
theorem recRead_short {s : Bs} (h1 : s = [] ∨ at0 s 0 = 1) (h2 : s.length < 8) : recRead s = (Rec.zero, s, 11) := by
  unfold recRead; rw [if_neg (by rintro ⟨a, b⟩; rcases h1 with h | h; exact a h; exact b h), if_pos h2]
theorem recRead_lacks {s : Bs} (h1 : at0 s 0 = 1) (h2 : 8 ≤ s.length) (h3 : (s.length : Int) < wholeN s) : recRead s = (Rec.zero, s, 11) := by
  unfold recRead; rw [if_neg (by rintro ⟨_, b⟩; exact b h1), if_neg (by omega), if_pos h3]
theorem recRead_form {s : Bs} (h1 : at0 s 0 = 1) (h2 : 8 ≤ s.length) (h3 : wholeN s ≤ (s.length : Int)) (h4 : at0 s 1 = 0) : recRead s = (Rec.zero, s, 10) := by
  unfold recRead; rw [if_neg (by rintro ⟨_, b⟩; exact b h1), if_neg (by omega), if_neg (by omega), if_pos h4]
theorem recRead_ok {s : Bs} (h1 : at0 s 0 = 1) (h2 : 8 ≤ s.length) (h3 : wholeN s ≤ (s.length : Int)) (h4 : ¬ at0 s 1 = 0) : recRead s = (front s, s.drop (wholeN s).toNat, 0) := by
  unfold recRead; rw [if_neg (by rintro ⟨_, b⟩; exact b h1), if_neg (by omega), if_neg (by omega), if_neg h4]; rfl

theorem bytes_head {r : Rec} (h : r.Is) (more : Bs) :
    r.bytes ++ more = 1 :: u8 r.t :: u8 (r.id / 256) :: u8 r.id :: u8 ((r.c.length : Int) / 256) :: u8 r.c.length :: u8 r.p :: 0 :: (r.c ++ (List.replicate r.p.toNat 0 ++ more)) := by
  unfold Rec.bytes
  rw [if_pos h]
  simp [two]
theorem bytes_length {r : Rec} (h : r.Is) : (r.bytes.length : Int) = 8 + r.c.length + r.p := by
  have := congrArg List.length (bytes_head h [])
  simp at this
  obtain ⟨_, _, _, _, _, hp, _⟩ := h
  omega
theorem bytes_none {r : Rec} (h : ¬ r.Is) : r.bytes = [] := by unfold Rec.bytes; rw [if_neg h]

theorem head_whole {r : Rec} (h : r.Is) (l : Bs) :
    wholeN (1 :: u8 r.t :: u8 (r.id / 256) :: u8 r.id :: u8 ((r.c.length : Int) / 256) :: u8 r.c.length :: u8 r.p :: 0 :: l) = 8 + r.c.length + r.p := by
  obtain ⟨_, _, _, _, _, _, _⟩ := h
  simp only [wholeN, at0, List.getD_cons_succ, List.getD_cons_zero, u8_cast]
  omega

/-- The head is whole: eight bytes with what belongs to a record, and what follows is enough. -/
theorem read_head {r : Rec} (h : r.Is) (z : UInt8) (l : Bs) (hl : r.c.length + r.p.toNat ≤ l.length) (hc : l.take r.c.length = r.c) :
    recRead (1 :: u8 r.t :: u8 (r.id / 256) :: u8 r.id :: u8 ((r.c.length : Int) / 256) :: u8 r.c.length :: u8 r.p :: z :: l) = (r, l.drop (r.c.length + r.p.toNat), 0) := by
  have hI := h
  obtain ⟨h1, h2, h3, h4, h5, h6, h7⟩ := h
  have hw : wholeN (1 :: u8 r.t :: u8 (r.id / 256) :: u8 r.id :: u8 ((r.c.length : Int) / 256) :: u8 r.c.length :: u8 r.p :: z :: l) = 8 + r.c.length + r.p := by
    simp only [wholeN, at0, List.getD_cons_succ, List.getD_cons_zero, u8_cast]
    omega
  rw [recRead_ok rfl (by simp) (by rw [hw]; simp only [List.length_cons]; omega) (by simp only [at0, List.getD_cons_succ, List.getD_cons_zero, u8_cast]; omega)]
  rw [hw]
  have e1 : (8 + (r.c.length : Int) + r.p).toNat = (r.c.length + r.p.toNat) + 8 := by omega
  rw [e1]
  have e2 : front (1 :: u8 r.t :: u8 (r.id / 256) :: u8 r.id :: u8 ((r.c.length : Int) / 256) :: u8 r.c.length :: u8 r.p :: z :: l) = r := by
    unfold front
    rw [hw]
    simp only [at0, List.getD_cons_succ, List.getD_cons_zero, u8_cast]
    have e3 : (8 + (r.c.length : Int) + r.p - r.p % 256).toNat = r.c.length + 8 := by omega
    rw [e3]
    simp only [List.take_succ_cons, List.drop_succ_cons, List.drop_zero, hc]
    cases r with
    | mk t id c p =>
      simp only at *
      congr 1 <;> omega
  rw [e2]
  simp only [List.drop_succ_cons]

theorem read_back {r : Rec} (h : r.Is) (more : Bs) : recRead (r.bytes ++ more) = (r, more, 0) := by
  rw [bytes_head h more, read_head h 0 _ (by simp) (by simp)]
  simp

/-- Cut off it lacks. -/
theorem read_cut {r : Rec} (h : r.Is) (k : Nat) (hk : (k : Int) < r.bytes.length) : recRead (r.bytes.take k) = (Rec.zero, r.bytes.take k, 11) := by
  have hb := bytes_head h []
  have hlen := bytes_length h
  rw [List.append_nil] at hb
  by_cases h8 : k < 8
  · refine recRead_short ?_ (by simp; omega)
    by_cases h0 : k = 0
    · subst h0; exact .inl (by simp)
    · right
      obtain ⟨k, rfl⟩ : ∃ j, k = j + 1 := ⟨k - 1, by omega⟩
      rw [hb]; rfl
  · have ek : ∃ j, k = j + 8 := ⟨k - 8, by omega⟩
    obtain ⟨j, rfl⟩ := ek
    have hl : (r.bytes.take (j + 8)).length = j + 8 := by rw [List.length_take]; omega
    refine recRead_lacks ?_ (by omega) ?_
    · rw [hb]; rfl
    · rw [hl, hb]
      simp only [List.take_succ_cons]
      rw [head_whole h]
      omega
theorem pad_whole (n : Nat) : ((8 + (n : Int)) + padN n) % 8 = 0 := by unfold padN; omega
theorem pad_le (n : Int) : 0 ≤ padN n ∧ padN n ≤ 7 := by unfold padN; omega
end Go.Proofs.Ytihfibelklhkbaa
