/- Walk: CodeCut. -/
import Derived.Test.YtjpnbjlhjlddbaaDoorUq
import Derived.Test.YtjpnbjlhjlddbaaDoorUl
import Derived.Test.YtjpnbjlhjlddbaaDoorT02
namespace Go.Proofs.YtjpnbjlhjlddbaaDoor
open Go.RowKit
namespace P2

theorem Sl.take {w : World} {B n c : Nat} {A : Option Addr} {l : List Int} (h : Sl w B 1 (.slice A n c) (bv l)) {k : Nat} (hk : k ≤ n) : Sl w B 1 (.slice A k c) (bv (l.take k)) := by
  obtain ⟨A', n', c', he, h1, h2, h3⟩ := h
  injection he with e1 e2 e3
  subst e1 e2 e3
  simp only [bv_length, Nat.mul_one] at h2
  refine ⟨A, k, c, rfl, by omega, by simp [h2]; omega, fun hk0 => ?_⟩
  obtain ⟨b, off, e, hb, hr⟩ := h3 (by omega)
  refine ⟨b, off, e, hb, fun j u hj => hr j u ?_⟩
  simp only [bv, List.getElem?_map, List.getElem?_take] at hj ⊢
  split at hj
  · exact hj
  · simp at hj
theorem prog_small {p : List Fn} (he : progE p = 0) : p.length ≤ 9223372036854775807 ∧ ∀ f ∈ p, f.2.length ≤ 9223372036854775807 := by
  rw [progE] at he
  split at he
  · cases he
  · rename_i hp
    refine ⟨by omega, fun f hf => ?_⟩
    have := packB_length (f := f) (by
      have : ∀ {l : List Fn}, firstE l = 0 → ∀ f ∈ l, packE f = 0 := by
        intro l
        induction l with
        | nil => intro _ f hf; cases hf
        | cons g l ih =>
          intro hl f hf
          rw [firstE] at hl
          split at hl
          · rename_i hg
            rcases List.mem_cons.1 hf with rfl | hf
            · exact hg
            · exact ih hl f hf
          · rename_i hg; exact absurd hl hg
      exact this he f hf)
    omega
theorem prog_of {w : World} {v : Value} {p : List Fn} (h : Fns w w.heap.size v p) (he : progE p = 0) : Prog w v p := ⟨h, prog_small he⟩

def PackOk (l : List Int) (w : World) (e : Ending) (w' : World) : Prop := ∃ A n c, e = .returned (.tuple #[.slice A n c, .int .i64 0]) ∧ Sl w' w'.heap.size 1 (.slice A n c) (bv l) ∧ Below w.heap.size w w'
theorem packAll_ok {w : World} {pv : Value} {p : List Fn} {l : List Int} (hp : Prog w pv p) (he : progE p = 0) (hb : progB p = l) : Calls Tryd.prog 17 #[.agg #[pv]] w (PackOk l w) := by
  refine (packAll hp).mono ?_
  rintro e w' ⟨v, rfl, k1, -, k3⟩
  have hs := k1 he
  obtain ⟨A, n, c, rfl, -⟩ := id hs
  rw [he]
  rw [hb] at hs
  exact ⟨A, n, c, rfl, hs, k3⟩
def UnNamed (p : List Fn) (at_ : Nat) (er : Int) (w : World) (e : Ending) (w' : World) : Prop :=
  (∃ A n c, e = .returned (.tuple #[.agg #[.slice A n c], .int .i64 at_, .int .i64 er]) ∧ Fns w' w'.heap.size (.slice A n c) p) ∧ Below w.heap.size w w'
theorem un_named {f : FuncId} {args : Array Value} {w : World} {l : List Int} {p : List Fn} {at_ : Nat} {er : Int} (h : Calls Tryd.prog f args w (UnAll l w)) (hu : un l = (p, at_, er)) : Calls Tryd.prog f args w (UnNamed p at_ er w) := by
  refine h.mono ?_
  rintro e w' ⟨⟨pv, rfl, hF⟩, hb⟩
  rw [hu] at hF ⊢
  obtain ⟨A, c, rfl, -⟩ := hF.open_
  exact ⟨⟨A, _, c, rfl, hF⟩, hb⟩

set_option maxHeartbeats 4000000 in
theorem codeCut_any {w : World} {v : Value} {l : List Int} (hs : Sl w w.heap.size 1 v (bv l)) (hmax : l.length ≤ 9223372036854775807) (hr : ∀ z ∈ l, 0 ≤ z ∧ z ≤ 255) (n m : Int) (hm : 0 ≤ m ∧ m ≤ 255) :
    Calls Tryd.prog 8 #[v, .int .i64 n, .int .u8 m] w fun e w' => e = .returned (.bool true) ∧ Below w.heap.size w w' := by
  obtain ⟨A, k, c, rfl, hkc, hk, -⟩ := id hs
  simp only [bv_length, Nat.mul_one] at hk
  by_cases h4 : 4000 < k
  · have hmax' : k ≤ 9223372036854775807 := by omega
    clear hs hmax hr hk
    go_enter Tryd.func8, Tryd.ntmps8
    go_wp2_with fail
    refine (awake_any _).mono ?_
    rintro e w5 ⟨rfl, hb5⟩
    go_wp2_with fail
    go_ret
    exact ⟨rfl, hb5⟩
  · have HK := Lib.hid hk
    have HR := Lib.hid hr
    have h4' : k ≤ 4000 := by omega
    obtain ⟨⟨p, at_, er⟩, hu⟩ := name_of (un l)
    have HU := Lib.hid hu
    have hU := un_named (unpackAll hs (by omega) hr) hu
    have hat : (un l).2.1 ≤ l.length := un_bound l
    rw [hu] at hat
    clear hu
    have hs' := hs
    clear hk hr hmax h4 hs
    go_enter Tryd.func8, Tryd.ntmps8
    go_wp2_with fail
    refine hU.mono ?_
    rintro e w1 ⟨⟨A1, n1, c1, rfl, hF⟩, hb1⟩
    clear hU
    by_cases h0 : er = 0
    · subst h0
      obtain ⟨u1, u2, u3⟩ := un_ok HR.out (by rw [HU.out])
      rw [HU.out] at u1 u2 u3
      have hbA := Below.alloc (Below.refl _ w1) (Nat.le_refl _) (.cells #[.slice A1 n1 c1] 35)
      have hT := packAll_ok ((prog_of hF u2).next hbA) u2 u3
      have hs2 := (hs'.next hb1).next hbA
      have hB2 := hb1.next hbA
      clear hs' hF hb1 hbA u1 u2 u3 hat
      go_wp2_with fail
      refine hT.mono ?_
      rintro e w3 ⟨A3, n3, c3, rfl, hs3, hb3⟩
      have hs2' := hs2.next hb3
      have hB3 := hB2.next hb3
      have hD := bytes_any hs2' hs3 (by have := HK.out; omega)
      rw [show decide (l = l) = true from by simp] at hD
      clear hT hs2 hB2 hb3 hs3
      go_wp2_with fail
      refine hD.mono ?_
      rintro e w4 ⟨rfl, q, rfl⟩
      have hBD := below_drewN (Below.refl w3.heap.size w3) q
      have hs4 := hs2'.next hBD
      have hB4 := hB3.next hBD
      clear hD hs2' hB3 hBD
      have hu7 : un (l ++ [m]) = ([], k, 11) := by rw [un_more (by rw [HU.out]) (by simp), HK.out]
      have hlm : (l ++ [m]).length ≤ 1000000 := by rw [List.length_append, HK.out]; simp; omega
      have hrm : ∀ z ∈ l ++ [m], 0 ≤ z ∧ z ≤ 255 := by
        intro z hz
        rcases List.mem_append.1 hz with hz | hz
        · exact HR.out z hz
        · have : z = m := by simpa using hz
          subst this; exact hm
      have hkk : ((k : Int) == (k : Int)) = true := by simp
      by_cases hn0 : 0 ≤ n ∧ n < k
      · obtain ⟨j, rfl⟩ : ∃ j : Nat, n = j := ⟨n.toNat, by omega⟩
        have hjk : j < k := by omega
        have hcut := un_cut (l := l) (by rw [HU.out]) (n := j) (by have := HK.out; omega)
        obtain ⟨⟨p5, at5, er5⟩, hu5⟩ := name_of (un (l.take j))
        rw [hu5] at hcut
        obtain ⟨rfl, hat5⟩ := hcut
        have hU5 := un_named (unpackAll (Sl.take hs4 (k := j) (by omega)) (by simp; omega) (fun z hz => HR.out z (List.mem_of_mem_take hz))) hu5
        clear hu5
        go_wp2_with fail
        refine hU5.mono ?_
        rintro e w5 ⟨⟨A5, n5, c5, rfl, -⟩, hb5⟩
        have hbA := Below.alloc (Below.refl _ w5) (Nat.le_refl _) (.cells #[.slice A5 n5 c5] 35)
        have hs5 := (hs4.next hb5).next hbA
        have hB5 := (hB4.next hb5).next hbA
        clear hU5 hs4 hB4 hb5 hbA
        go_wp2_with (first | (at_builtin; refine wpList_append_sl rfl (.tmp 68) (.tmp 69) 24 rfl w.heap.size 5 (.int .u8 0) 1 1 Tryd.underlying24 info_u8 rfl (by omega) (.slice none 0 0) 0 [] rfl (World.ownsRow_nil _ _ _ _) _ k _ _ rfl hs5 (by rw [bv_length, HK.out]; omega) (bv_one _) (by omega) (by omega) hB5.size ?_; intro v6 w6 hown6 hg6 hat6; have hB6 := below_append hB5 (World.ownsRow_nil _ _ 5 1) hg6 (Nat.le_refl _); have hs6 : Sl (w6.alloc (.cells #[.int .u8 m] 5)) (w6.alloc (.cells #[.int .u8 m] 5)).heap.size 1 (.slice (some ⟨w6.heap.size, 0, none⟩) 1 1) (bv [m]) := Sl.new w6 _ _ 1 _ rfl rfl rfl; have hown6' := hown6.alloc (.cells #[.int .u8 m] 5); have hB6' := hB6.alloc hB6.size (.cells #[.int .u8 m] 5); clear hown6 hg6 hat6 hB6) | (at_builtin; refine wpList_append_sl rfl (.tmp 71) (.tmp 73) 24 rfl w.heap.size 5 (.int .u8 0) 1 1 Tryd.underlying24 info_u8 rfl (by omega) v6 (0 + k) _ rfl hown6' _ 1 _ _ rfl hs6 rfl (bv_one _) (by omega) (by omega) hB6'.size ?_; intro v7 w7 hown7 hg7 hat7; have hB7 := below_append hB6' hown6' hg7 (Nat.le_refl _); have hs7 := Sl.own hown7; rw [List.nil_append, ← bv_append] at hs7; have hU7 := un_named (unpackAll hs7 hlm hrm) hu7; clear hown6' hown7 hg7 hat7 hB6' hs6 hs7))
        refine hU7.mono ?_
        rintro e w8 ⟨⟨A8, n8, c8, rfl, -⟩, hb8⟩
        have hB8 := (hB7.next hb8).next (Below.alloc (Below.refl _ w8) (Nat.le_refl _) (.cells #[.slice A8 n8 c8] 35))
        clear hU7 hB7 hb8
        go_wp2_with fail
        refine (awake_any _).mono ?_
        rintro e w9 ⟨rfl, hb9⟩
        go_wp2_with fail
        go_ret
        exact ⟨rfl, hB8.next hb9⟩

      · by_cases hn1 : 0 ≤ n
        · have hnk : ¬ n < k := fun h => hn0 ⟨hn1, h⟩
          clear hn0
          go_wp2_with (first | (at_builtin; refine wpList_append_sl rfl (.tmp 68) (.tmp 69) 24 rfl w.heap.size 5 (.int .u8 0) 1 1 Tryd.underlying24 info_u8 rfl (by omega) (.slice none 0 0) 0 [] rfl (World.ownsRow_nil _ _ _ _) _ k _ _ rfl hs4 (by rw [bv_length, HK.out]; omega) (bv_one _) (by omega) (by omega) hB4.size ?_; intro v6 w6 hown6 hg6 hat6; have hB6 := below_append hB4 (World.ownsRow_nil _ _ 5 1) hg6 (Nat.le_refl _); have hs6 : Sl (w6.alloc (.cells #[.int .u8 m] 5)) (w6.alloc (.cells #[.int .u8 m] 5)).heap.size 1 (.slice (some ⟨w6.heap.size, 0, none⟩) 1 1) (bv [m]) := Sl.new w6 _ _ 1 _ rfl rfl rfl; have hown6' := hown6.alloc (.cells #[.int .u8 m] 5); have hB6' := hB6.alloc hB6.size (.cells #[.int .u8 m] 5); clear hown6 hg6 hat6 hB6) | (at_builtin; refine wpList_append_sl rfl (.tmp 71) (.tmp 73) 24 rfl w.heap.size 5 (.int .u8 0) 1 1 Tryd.underlying24 info_u8 rfl (by omega) v6 (0 + k) _ rfl hown6' _ 1 _ _ rfl hs6 rfl (bv_one _) (by omega) (by omega) hB6'.size ?_; intro v7 w7 hown7 hg7 hat7; have hB7 := below_append hB6' hown6' hg7 (Nat.le_refl _); have hs7 := Sl.own hown7; rw [List.nil_append, ← bv_append] at hs7; have hU7 := un_named (unpackAll hs7 hlm hrm) hu7; clear hown6' hown7 hg7 hat7 hB6' hs6 hs7))
          refine hU7.mono ?_
          rintro e w8 ⟨⟨A8, n8, c8, rfl, -⟩, hb8⟩
          have hB8 := (hB7.next hb8).next (Below.alloc (Below.refl _ w8) (Nat.le_refl _) (.cells #[.slice A8 n8 c8] 35))
          clear hU7 hB7 hb8
          go_wp2_with fail
          refine (awake_any _).mono ?_
          rintro e w9 ⟨rfl, hb9⟩
          go_wp2_with fail
          go_ret
          exact ⟨rfl, hB8.next hb9⟩

        · clear hn0
          go_wp2_with (first | (at_builtin; refine wpList_append_sl rfl (.tmp 68) (.tmp 69) 24 rfl w.heap.size 5 (.int .u8 0) 1 1 Tryd.underlying24 info_u8 rfl (by omega) (.slice none 0 0) 0 [] rfl (World.ownsRow_nil _ _ _ _) _ k _ _ rfl hs4 (by rw [bv_length, HK.out]; omega) (bv_one _) (by omega) (by omega) hB4.size ?_; intro v6 w6 hown6 hg6 hat6; have hB6 := below_append hB4 (World.ownsRow_nil _ _ 5 1) hg6 (Nat.le_refl _); have hs6 : Sl (w6.alloc (.cells #[.int .u8 m] 5)) (w6.alloc (.cells #[.int .u8 m] 5)).heap.size 1 (.slice (some ⟨w6.heap.size, 0, none⟩) 1 1) (bv [m]) := Sl.new w6 _ _ 1 _ rfl rfl rfl; have hown6' := hown6.alloc (.cells #[.int .u8 m] 5); have hB6' := hB6.alloc hB6.size (.cells #[.int .u8 m] 5); clear hown6 hg6 hat6 hB6) | (at_builtin; refine wpList_append_sl rfl (.tmp 71) (.tmp 73) 24 rfl w.heap.size 5 (.int .u8 0) 1 1 Tryd.underlying24 info_u8 rfl (by omega) v6 (0 + k) _ rfl hown6' _ 1 _ _ rfl hs6 rfl (bv_one _) (by omega) (by omega) hB6'.size ?_; intro v7 w7 hown7 hg7 hat7; have hB7 := below_append hB6' hown6' hg7 (Nat.le_refl _); have hs7 := Sl.own hown7; rw [List.nil_append, ← bv_append] at hs7; have hU7 := un_named (unpackAll hs7 hlm hrm) hu7; clear hown6' hown7 hg7 hat7 hB6' hs6 hs7))
          refine hU7.mono ?_
          rintro e w8 ⟨⟨A8, n8, c8, rfl, -⟩, hb8⟩
          have hB8 := (hB7.next hb8).next (Below.alloc (Below.refl _ w8) (Nat.le_refl _) (.cells #[.slice A8 n8 c8] 35))
          clear hU7 hB7 hb8
          go_wp2_with fail
          refine (awake_any _).mono ?_
          rintro e w9 ⟨rfl, hb9⟩
          go_wp2_with fail
          go_ret
          exact ⟨rfl, hB8.next hb9⟩
    · have e1 : (er != 0) = true := by simpa using h0
      clear hF
      go_wp2_with fail
      refine (awake_any _).mono ?_
      rintro e w5 ⟨rfl, hb5⟩
      go_wp2_with fail
      go_ret
      exact ⟨rfl, (hb1.alloc hb1.size _).next hb5⟩
end P2
end Go.Proofs.YtjpnbjlhjlddbaaDoor
