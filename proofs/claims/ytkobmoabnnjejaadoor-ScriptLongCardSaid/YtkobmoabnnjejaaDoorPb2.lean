/- Walk: strings.Builder's WriteByte, as this translation has it. -/
import Derived.Test.YtkobmoabnnjejaaDoorPb
namespace Go.Proofs.YtkobmoabnnjejaaDoor
open Go.RowKit
namespace PC

set_option maxRecDepth 100000 in
set_option maxHeartbeats 2000000 in
theorem writeByte_any (B b : Nat) (bs : List Value) (c : Int) (w : World) (h : Lib.IsBuilder 59 5 B b bs w) (hlen : bs.length + 1 ≤ 1099511627776) (hBw : B ≤ w.heap.size) :
    Calls Tryd.prog 31 #[.pointer (some ⟨b, 0, none⟩), .int .u8 c] w fun e w' => e = .returned .nilIface ∧ Lib.IsBuilder 59 5 B b (bs ++ [.int .u8 c]) w' ∧ Below B w w' := by
  go_enter Tryd.func31, Tryd.ntmps31
  go_wp2_with (go_at_call 40; refine (copyCheck_any B b bs _ h).mono ?_)
  rintro e w1 ⟨rfl, h1, hb1⟩
  obtain ⟨hB, v, hbk, hown, hne⟩ := h1
  have c0 : w1.cell? ⟨b, 0, none⟩ = some (.pointer (some ⟨b, 0, none⟩)) := by rw [Lib.cell_of_heap hbk]; rfl
  have c1 : w1.cell? ⟨b, 1, none⟩ = some v := by rw [Lib.cell_of_heap hbk]; rfl
  have hlt : b < w1.heap.size := lt_of_block hbk
  have hs1 : Sl (w1.alloc (.cells #[.int .u8 c] 5)) (w1.alloc (.cells #[.int .u8 c] 5)).heap.size 1 (.slice (some ⟨w1.heap.size, 0, none⟩) 1 1) [.int .u8 c] := Sl.new w1 #[.int .u8 c] 5 1 _ rfl rfl rfl
  have hown1 := hown.alloc (.cells #[.int .u8 c] 5)
  have hbk1 : (w1.alloc (.cells #[.int .u8 c] 5)).heap[b]? = some (.cells #[.pointer (some ⟨b, 0, none⟩), v] 59 (0, 0)) := blk_next hbk (by go_grown)
  have hbB : Below B w (w1.alloc (.cells #[.int .u8 c] 5)) := hb1.alloc (by have := hb1.size; omega) _
  have hone : ∀ u ∈ [Value.int .u8 c], u.oneCell' = true := by
    intro u hu
    have : u = .int .u8 c := by simpa using hu
    subst this; rfl
  go_wp2_with (at_builtin; refine wpList_append_sl rfl (.tmp 11) (.tmp 13) 43 rfl B 5 (.int .u8 0) 1 1 Tryd.underlying43 info_u8 rfl (by omega) _ _ _ rfl hown1 _ 1 _ _ rfl hs1 rfl hone ?c3 ?c4 (Nat.le_trans hBw hbB.size) ?_)
  case c3 => omega
  case c4 => omega
  intro v' w2 hown' hgrow _
  have hb2 : w2.heap[b]? = some (.cells #[.pointer (some ⟨b, 0, none⟩), v] 59 (0, 0)) := by
    rw [hgrow.block b (lt_of_block hbk1) (fun e => hne e.symm)]
    exact hbk1
  have d0 : w2.cell? ⟨b, 0, none⟩ = some (.pointer (some ⟨b, 0, none⟩)) := by rw [Lib.cell_of_heap hb2]; rfl
  have d1 : w2.cell? ⟨b, 1, none⟩ = some v := by rw [Lib.cell_of_heap hb2]; rfl
  have f1 : w2.frozen? ⟨b, 1, none⟩ = false := Lib.frozen_of_heap hb2 1
  obtain ⟨ao, n', cap, rfl⟩ : ∃ ao n' cap, v' = .slice ao n' cap := own_slice hown'
  go_wp2
  go_ret
  refine ⟨rfl, .inr ?_, ?_⟩
  · exact Lib.BuilderAt.put (T := 59) (e := 5) hB hb2 (bs' := bs ++ [.int .u8 c]) (by simpa using hown') (by decide)
  · exact (hbB.grown hgrow (Nat.le_trans hBw hbB.size) (fun k hk => (hown.lt k hk).1)).setCell (p := ⟨b, 1, none⟩) hB _
end PC
end Go.Proofs.YtkobmoabnnjejaaDoor
