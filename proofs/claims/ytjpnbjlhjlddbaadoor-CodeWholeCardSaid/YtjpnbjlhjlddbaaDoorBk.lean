/- Plain: what is encoded is decoded, and what is decoded is encoded to the same bytes. -/
import Derived.Test.YtjpnbjlhjlddbaaDoorU02
import Derived.Test.YtjpnbjlhjlddbaaDoorG02
namespace Go.Proofs.YtjpnbjlhjlddbaaDoor
namespace P2

theorem encB_length' (i : Ins) : (encB i).length = 8 := rfl
theorem dec_enc {i : Ins} (h : chk i = 0) : decI (encB i) = i := by
  obtain ⟨op, a, b, c, n⟩ := i
  obtain ⟨_, _, _, _, h1, h2⟩ := ok_bounds h
  have hw : word (u32 n / 16777216) (u32 n / 65536 % 256) (u32 n / 256 % 256) (u32 n % 256) = u32 n := by
    unfold word u32; omega
  have hs : s32 (u32 n) = n := by
    unfold s32 u32; split <;> omega
  show (op, a, b, c, s32 (word (u32 n / 16777216) (u32 n / 65536 % 256) (u32 n / 256 % 256) (u32 n % 256))) = _
  rw [hw, hs]
theorem decE_enc {i : Ins} (h : chk i = 0) : decE (encB i) = 0 := by
  rw [decE, if_pos (encB_length' i), dec_enc h, h]
theorem decV_enc {i : Ins} (h : chk i = 0) : decV (encB i) = i := by
  rw [decV, if_pos (decE_enc h), dec_enc h]
theorem enc_dec {l : List Int} (hl : l.length = 8) (hr : ∀ z ∈ l, 0 ≤ z ∧ z ≤ 255) : encB (decI l) = l := by
  match l, hl with
  | [b0, b1, b2, b3, b4, b5, b6, b7], _ =>
    have h4 := hr b4 (by simp)
    have h5 := hr b5 (by simp)
    have h6 := hr b6 (by simp)
    have h7 := hr b7 (by simp)
    have hu : u32 (s32 (word b4 b5 b6 b7)) = word b4 b5 b6 b7 := by
      unfold u32 s32 word; split <;> omega
    show [b0, b1, b2, b3, u32 (s32 (word b4 b5 b6 b7)) / 16777216, u32 (s32 (word b4 b5 b6 b7)) / 65536 % 256, u32 (s32 (word b4 b5 b6 b7)) / 256 % 256, u32 (s32 (word b4 b5 b6 b7)) % 256] = _
    rw [hu]
    have e4 : word b4 b5 b6 b7 / 16777216 = b4 := by unfold word; omega
    have e5 : word b4 b5 b6 b7 / 65536 % 256 = b5 := by unfold word; omega
    have e6 : word b4 b5 b6 b7 / 256 % 256 = b6 := by unfold word; omega
    have e7 : word b4 b5 b6 b7 % 256 = b7 := by unfold word; omega
    rw [e4, e5, e6, e7]
theorem chk_vals (i : Ins) : chk i = 0 ∨ chk i = 10 ∨ chk i = 13 := by
  unfold chk; split
  · exact .inr (.inr rfl)
  · split
    · exact .inl rfl
    · exact .inr (.inl rfl)
theorem encB_range {i : Ins} (h : chk i = 0) : ∀ z ∈ encB i, 0 ≤ z ∧ z ≤ 255 := by
  obtain ⟨op, a, b, c, n⟩ := i
  obtain ⟨_, _, _, _, h1, h2⟩ := ok_bounds h
  intro z hz
  have hu : 0 ≤ u32 n ∧ u32 n < 4294967296 := by unfold u32; omega
  simp only [encB, List.mem_cons, List.not_mem_nil, or_false] at hz
  rcases hz with h | h | h | h | h | h | h | h <;> omega
end P2
end Go.Proofs.YtjpnbjlhjlddbaaDoor
