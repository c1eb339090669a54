/- Script: picks and all (the law's own), and the walk of ScriptWindow. -/
import Derived.Test.YtkobmoabnnjejaaDoorS9
import Derived.Test.YtkobmoabnnjejaaDoorWq
import Derived.Test.YtkobmoabnnjejaaDoorS14
namespace Go.Proofs.YtkobmoabnnjejaaDoor
open Go.RowKit
namespace P21
open PC

theorem Sl_part {w : World} {B size b off n c : Nat} {xs : List Value} (h : Sl w B size (.slice (some ⟨b, off, none⟩) n c) xs) (k m c' : Nat) (hkm : k + m ≤ n) (hm : m ≤ c') :
    Sl w B size (.slice (some ⟨b, off + k * size, none⟩) m c') ((xs.drop (k * size)).take (m * size)) := by
  obtain ⟨A', n', c'', he, hnc, hl, hA⟩ := h
  injection he with e1 e2 e3
  subst e1 e2 e3
  have hle : k * size + m * size ≤ n * size := by rw [← Nat.add_mul]; exact Nat.mul_le_mul_right _ hkm
  refine ⟨_, m, c', rfl, hm, by rw [List.length_take, List.length_drop, hl]; omega, fun hm0 => ?_⟩
  obtain ⟨b', off', e, hb, hr⟩ := hA (by omega)
  injection e with e
  injection e with e1 e2 _
  subst e1 e2
  refine ⟨b, off + k * size, rfl, hb, fun j u hj => ?_⟩
  rw [List.getElem?_take] at hj
  split at hj
  · rw [List.getElem?_drop] at hj
    rw [Nat.add_assoc]
    exact hr _ _ hj
  · cases hj

/-- Numbers in memory. -/
def zv (l : List Int) : List Value := l.map (Value.int .i64)
@[simp] theorem zv_length (l : List Int) : (zv l).length = l.length := by simp [zv]
theorem zv_append (l m : List Int) : zv (l ++ m) = zv l ++ zv m := by simp [zv]
theorem zv_one (l : List Int) : ∀ u ∈ zv l, u.oneCell' = true := by
  intro u hu
  obtain ⟨x, _, rfl⟩ := List.mem_map.1 hu
  rfl
theorem zv_part (l : List Int) (i m : Nat) : ((zv l).drop i).take m = zv ((l.drop i).take m) := by unfold zv; rw [List.map_take, List.map_drop]
theorem zv_open {w : World} {B : Nat} {v : Value} {l : List Int} (h : Sl w B 1 v (zv l)) : ∃ A c, v = .slice A l.length c ∧ l.length ≤ c ∧ ∀ k, k < l.length → ∃ b off, A = some ⟨b, off, none⟩ ∧ b < B ∧ w.cell? ⟨b, off + k, none⟩ = some (.int .i64 (l.getD k 0)) := by
  obtain ⟨A, n, c, rfl, hnc, hn, hA⟩ := h
  rw [zv_length, Nat.mul_one] at hn
  subst hn
  refine ⟨A, c, rfl, hnc, fun k hk => ?_⟩
  obtain ⟨b, off, rfl, hb, hr⟩ := hA (by omega)
  refine ⟨b, off, rfl, hb, hr k _ ?_⟩
  simp [zv, List.getD_eq_getElem?_getD, List.getElem?_eq_getElem hk]
theorem info_i64 : (Tryd.prog.info? 2).map (fun i => (i.zero, i.size, i.bytes)) = some (some (.int .i64 0), 1, 8) := by kernel_rfl
theorem pk_succ {l : List Ev} {k : Nat} (hk : k < l.length) : pk (l.take (k + 1)) = pk (l.take k) ++ if (at_ l k).k = 0 then [(at_ l k).n] else [] := by
  rw [List.take_succ_eq_append_getElem hk, pk_append, pk_cons, at_eq hk]
  show _ ++ (_ ++ []) = _
  rw [List.append_nil]
theorem pk_len (l : List Ev) : (pk l).length ≤ l.length := by unfold pk; rw [List.length_map]; exact List.length_filter_le _ _
def PkPost (w : World) (l : List Ev) (e : Ending) (w' : World) : Prop := (∃ v, e = .returned v ∧ Sl w' w'.heap.size 1 v (zv (pk l))) ∧ Below w.heap.size w w'
theorem pk_post {w w' : World} {l : List Ev} {v : Value} {e : Ending} (he : e = .returned v) (hv : Sl w' w'.heap.size 1 v (zv (pk l))) (hb : Below w.heap.size w w') : PkPost w l e w' := ⟨⟨v, he, hv⟩, hb⟩
set_option maxHeartbeats 2000000 in
theorem picks_any {w : World} {v : Value} {l : List Ev} (h : Evs w v l) (hlen : l.length ≤ 100000) : Calls Tryd.prog 20 #[v] w (PkPost w l) := by
  obtain ⟨A, c, rfl, hnc, hA⟩ := evs_open h.sl
  have HA := Lib.hid hA
  obtain ⟨n, hn⟩ := name_of l.length
  have HN := Lib.hid hn
  rw [hn] at hnc hlen ⊢
  clear hn hA h
  go_enter Tryd.func20, Tryd.ntmps20
  go_wp2_with fail
  go_loopw [3, 4] (fun out i wr => ∃ k : Nat, k ≤ n ∧ i = .int .i64 k ∧ wr.ownsRow w.heap.size 2 1 out (pk (l.take k)).length (zv (pk (l.take k))) ∧ Below w.heap.size w wr) (fun _ i _ => n - (intOf i).toNat)
  case atStart => exact ⟨0, Nat.zero_le _, rfl, own_empty w _ 1 _ (Nat.le_refl _), (Below.refl _ _).alloc (Nat.le_refl _) _⟩
  case round =>
    obtain ⟨k, hk, rfl, hown, hB⟩ := hrel
    by_cases hlt : k < n
    · obtain ⟨b, off, rfl, hb, q0, q1⟩ := HA.out k (by rw [HN.out]; exact hlt)
      have hpl : (pk (l.take k)).length ≤ 100000 := by
        have h1 := pk_len (l.take k)
        have h2 := List.length_take_le k l
        omega
      obtain ⟨⟨ek, en⟩, he⟩ := name_of (at_ l k)
      have hsu := pk_succ (l := l) (k := k) (by rw [HN.out]; exact hlt)
      rw [he] at q0 q1 hsu
      dsimp only at q0 q1 hsu
      have c0 := (hB.cell (p := ⟨b, _, none⟩) hb).trans q0
      have c1 := (hB.cell (p := ⟨b, _, none⟩) hb).trans q1
      have HSU := Lib.hid hsu
      clear q0 q1 he hsu
      by_cases hp : ek = 0
      · have e0 : (ek == 0) = true := by simpa using hp
        have HP := Lib.hid hp
        clear hp
        have hs2 : Sl (wr.alloc (.cells #[.int .i64 en] 2)) (wr.alloc (.cells #[.int .i64 en] 2)).heap.size 1 (.slice (some ⟨wr.heap.size, 0, none⟩) 1 1) (zv [en]) := Sl.new wr _ _ 1 _ rfl rfl rfl
        have hB2 := hB.alloc hB.size (.cells #[.int .i64 en] 2)
        have hown2 := hown.alloc (.cells #[.int .i64 en] 2)
        clear hown hB
        go_wp2_with (at_builtin; refine wpList_append_sl rfl (.tmp 18) (.tmp 24) 39 rfl w.heap.size 2 (.int .i64 0) 1 8 Tryd.underlying39 info_i64 rfl (by omega) _ _ _ rfl hown2 _ 1 _ _ rfl hs2 rfl (zv_one _) (by omega) (by omega) hB2.size ?_; intro v6 w6 hown6 hg6 hat6; have hB6 := below_append hB2 hown2 hg6 (Nat.le_refl _); obtain ⟨A6, m6, c6, rfl⟩ := own_slice hown6; clear hown2 hs2 hg6 hat6 hB2)
        refine ⟨⟨k + 1, hlt, by go_num, ?_, hB6⟩, by simp [intOf]; omega⟩
        rw [HSU.out, if_pos HP.out, zv_append]
        exact own_len hown6 (by simp) rfl
      · have e0 : (ek == 0) = false := by simpa using hp
        have HP := Lib.hid hp
        clear hp
        go_wp2_with fail
        refine ⟨⟨k + 1, hlt, by go_num, ?_, hB⟩, by simp [intOf]; omega⟩
        rw [HSU.out, if_neg HP.out, List.append_nil]
        exact hown
    · have : k = n := by omega
      subst this
      obtain ⟨A6, m6, c6, rfl⟩ := own_slice hown
      go_wp2_with fail
      go_ret
      refine pk_post rfl ?_ hB
      have := Sl.own hown
      rwa [List.take_of_length_le (by rw [HN.out]; exact Nat.le_refl _)] at this
set_option maxHeartbeats 2000000 in
theorem all_any {w : World} {B : Nat} {v : Value} {P : List Int} (h : Sl w B 1 v (zv P)) (hlen : P.length ≤ 100000) (n : Nat) : Calls Tryd.prog 21 #[v, .int .i64 n] w fun e w' => e = .returned (.bool (allT P n)) ∧ w' = w := by
  obtain ⟨A, c, rfl, hnc, hA⟩ := zv_open h
  have HA := Lib.hid hA
  obtain ⟨m, hm⟩ := name_of P.length
  have HM := Lib.hid hm
  rw [hm] at hnc hlen ⊢
  clear hm hA h
  by_cases hbig : m < n
  · have HR : Hid (allT P n = false) := Lib.hid (by unfold allT; rw [decide_eq_false (by rw [HM.out]; omega)]; rfl)
    have f1 : decide (m < n) = true := by simpa using hbig
    clear hbig
    go_enter Tryd.func21, Tryd.ntmps21
    go_wp2_with fail
    go_ret
    exact ⟨ret_bool HR.out.symm, rfl⟩
  · have f1 : decide (m < n) = false := by simp; omega
    have hn : n ≤ m := by omega
    clear hbig
    go_enter Tryd.func21, Tryd.ntmps21
    go_wp2_with fail
    go_loop [5] (fun x => ∃ k : Nat, k ≤ n ∧ x = .int .i64 k ∧ ∀ j : Nat, j < k → (j : Int) ∈ P) (fun x => n - (intOf x).toNat)
    case atStart => exact ⟨0, Nat.zero_le _, rfl, fun j hj => by omega⟩
    case round =>
      obtain ⟨k, hk, rfl, hin⟩ := hrel
      have HIN := Lib.hid hin
      clear hin
      by_cases hlt : k < n
      · go_wp2_with fail
        go_loop [6, 7] (fun is x => ∃ (i : Nat) (b : Bool), i ≤ m ∧ x = .int .i64 i ∧ is = .bool b ∧ (b = true ↔ (k : Int) ∈ P.take i)) (fun _ x => m - (intOf x).toNat)
        case atStart => exact ⟨0, false, Nat.zero_le _, rfl, rfl, by simp⟩
        case round =>
          obtain ⟨i, b, hi, rfl, rfl, hb⟩ := hrel
          have HB := Lib.hid hb
          clear hb
          by_cases hlt2 : i < m
          · obtain ⟨bl, off, rfl, hbl, c0⟩ := HA.out i (by rw [HM.out]; exact hlt2)
            have HT : Hid (P.take (i + 1) = P.take i ++ [P.getD i 0]) := Lib.hid (by
              rw [List.take_succ_eq_append_getElem (by rw [HM.out]; exact hlt2), List.getD_eq_getElem?_getD, List.getElem?_eq_getElem (by rw [HM.out]; exact hlt2)]
              rfl)
            obtain ⟨z, hz⟩ := name_of (P.getD i 0)
            rw [hz] at c0
            have HZ : Hid (P.take (i + 1) = P.take i ++ [z]) := Lib.hid (by rw [HT.out, hz])
            clear hz HT
            cases b
            · by_cases hzk : z = k
              · have f3 : (z == (k : Int)) = true := by simpa using hzk
                have HZK := Lib.hid hzk
                clear hzk
                go_wp2_with fail
                go_round
                case rel => exact ⟨i + 1, true, by omega, by go_num, rfl, by rw [HZ.out, HZK.out]; simp⟩
                case measure => simp [intOf]; omega
              · have f3 : (z == (k : Int)) = false := by simpa using hzk
                have HZK := Lib.hid hzk
                clear hzk
                go_wp2_with fail
                go_round
                case rel => exact ⟨i + 1, false, by omega, by go_num, rfl, by
                  have h1 : ¬ (k : Int) ∈ P.take i := fun h => by have := HB.out.2 h; cases this
                  have h2 : ¬ (k : Int) = z := fun h => HZK.out h.symm
                  rw [HZ.out]
                  simp [h1, h2]⟩
                case measure => simp [intOf]; omega
            · go_wp2_with fail
              go_round
              case rel => exact ⟨i + 1, true, by omega, by go_num, rfl, by
                have h1 : (k : Int) ∈ P.take i := HB.out.1 rfl
                rw [HZ.out]
                simp [h1]⟩
              case measure => simp [intOf]; omega
          · obtain rfl : i = m := by omega
            have HE : Hid (b = true ↔ (k : Int) ∈ P) := Lib.hid (by have := HB.out; rwa [List.take_of_length_le (by rw [HM.out]; exact Nat.le_refl _)] at this)
            cases b
            · have HR : Hid (allT P n = false) := Lib.hid (by
                cases hc : allT P n with
                | false => rfl
                | true =>
                  have := HE.out.2 ((allT_iff _ _).1 hc k hlt)
                  cases this)
              go_wp2_with fail
              go_ret
              exact ⟨ret_bool HR.out.symm, rfl⟩
            · have HK : Hid ((k : Int) ∈ P) := Lib.hid (HE.out.1 rfl)
              go_wp2_with fail
              go_round
              case rel => exact ⟨k + 1, by omega, by go_num, fun j hj => by
                by_cases e : j = k
                · subst e; exact HK.out
                · exact HIN.out j (by omega)⟩
              case measure => simp [intOf]; omega
      · obtain rfl : k = n := by omega
        have HR : Hid (allT P k = true) := Lib.hid ((allT_iff _ _).2 HIN.out)
        go_wp2_with fail
        go_ret
        exact ⟨ret_bool HR.out.symm, rfl⟩
end P21
end Go.Proofs.YtkobmoabnnjejaaDoor
