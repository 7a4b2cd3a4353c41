/- The program: bag.Distinct, bag.Project. -/
import Derived.Test.YthcalfeoejdcgaaGreatDoorZ26
import Derived.Test.YthcalfeoejdcgaaGreatDoorZ22
import Derived.Test.YthcalfeoejdcgaaGreatDoorZ12
import Derived.Test.YthcalfeoejdcgaaGreatDoorZ15
namespace Go.Proofs.YthcalfeoejdcgaaGreatDoor
open Go.RowKit Go.BigFrame
set_option linter.unusedSimpArgs false
set_option linter.unusedVariables false

theorem dis_take {t : Tab} {k : Nat} {x : List Val × Int} (hx : t[k]? = some x) (h : 0 < x.2) : disV (t.take (k + 1)) = disV (t.take k) ++ [(x.1, 1)] := by
  unfold disV
  rw [take_snoc hx, List.filter_append, List.map_append]
  simp [h]
theorem disV_len (t : Tab) : (disV t).length ≤ t.length := by unfold disV; rw [List.length_map]; exact List.length_filter_le _ _
set_option maxRecDepth 100000 in
set_option maxHeartbeats 1000000 in
theorem distinctE (A : Option Addr) (n c : Nat) (t : Tab) (w : World) (ht : rTab w A n t) (hok : okTab t) : Calls Tryz.prog 136 #[.slice A n c] w (Tab2R (disV t) w) := by
  have HT := Lib.hid ht
  have HL := Lib.hid ht.len
  have HK := Lib.hid hok
  have hn : n ≤ 4096 := by have := ht.len; have := hok.1.1; omega
  have H1 := Lib.hid (bvalE A n c t w ht hok.1)
  clear ht hok
  go_enter Tryz.func136, Tryz.ntmps136
  go_wp2_with fail
  refine H1.out.mono ?_
  rintro e w1 ⟨rfl, hb1⟩
  have HB1 := Lib.hid hb1
  clear hb1
  go_wp2
  go_loopw [5, 15] (fun v i wr => ∃ k : Nat, k ≤ n ∧ i = .int .i64 k ∧ Below w.heap.size w wr ∧ Hid (ownD (kEntF w.heap.size) wr w.heap.size v (disV (t.take k)).length (disV (t.take k)))) (fun _ i _ => n - (intOf i).toNat)
  case atStart => exact ⟨0, by omega, rfl, HB1.out, Lib.hid (ownD.nil _ _)⟩
  case round =>
    obtain ⟨k, hk, rfl, hbw, HO⟩ := hrel
    have HBW := Lib.hid hbw
    by_cases hlt : k < n
    · obtain ⟨b1, o1, rfl, hc1⟩ := HT.out.opn (by omega)
      obtain ⟨x, hx⟩ := get_some (l := t) (k := k) (by have := HL.out; omega)
      obtain ⟨rA, rN, rC, x1, x2, x3⟩ := hc1 k x hx
      have X3 := Lib.hid x3
      have z1 := cell_later hbw x1
      have z2 := cell_later hbw x2
      have hm := List.mem_of_getElem? hx
      have hpx := HK.out.2 x hm
      have dp : decide (0 < x.2) = true := by simp [hpx]
      have hrN : rN ≤ 12 := by have := x3.len; have := (HK.out.1.2.2 x hm).1; omega
      have HX : Hid (disV (t.take (k + 1)) = disV (t.take k) ++ [(x.1, 1)]) := Lib.hid (dis_take hx hpx)
      have hlen : (disV (t.take k)).length < 1000000 := by have h1 := disV_len (t.take k); have h2 := List.length_take (i := k) (l := t); omega
      have hv0 : ∀ j, u5.ownBlock = some j → w.heap.size ≤ j := fun j e => (HO.out.lt j e).1
      have HV0 := Lib.hid hv0
      have HP := Lib.hid (putE w.heap.size u5 _ (disV (t.take k)) rA rN rC x.1 1 (wr.alloc (.cells #[.slice rA rN rC, .int .i64 x.2] 65)) (HO.out.later (ballo _ _)) ((x3.later hbw).later (ballo _ _)) hrN (by omega) (by omega) (Nat.le_trans hbw.size (ballo _ _).size) hlen)
      clear hc1 hx x3 hbw x1 x2 hm hv0
      go_wp2_with fail
      refine HP.out.mono ?_
      rintro e w' ⟨v', rfl, hown', hgrow⟩
      have HBF := Lib.hid (below_push2 (HBW.out.alloc HBW.out.size _) hgrow HV0.out)
      have HOF : Hid (ownD (kEntF w.heap.size) w' w.heap.size v' (disV (t.take (k + 1))).length (disV (t.take (k + 1)))) := Lib.hid (own_at2 hown' HX.out)
      clear hown' hgrow
      go_wp2
      go_roundw
      case rel => exact ⟨k + 1, by omega, by go_num, HBF.out, HOF⟩
      case measure => simp [intOf]; omega
    · obtain rfl : k = n := by omega
      have HTT : Hid (t.take k = t) := Lib.hid (List.take_of_length_le (by have := HL.out; omega))
      obtain ⟨A8, c8, rfl, hcc8, hrd8, hfr8⟩ := HO.out.rd
      have HR8 : Hid (rTabF wr w.heap.size A8 (disV (t.take k)).length (disV t)) := Lib.hid ⟨by have h := hrd8; rw [HTT.out] at h; rw [HTT.out]; exact h, fun _ a e => (hfr8 a e).1⟩
      clear hrd8 hfr8
      go_wp2
      go_ret2
      exact ⟨_, _, _, rfl, HR8.out, hcc8, hbw⟩
/-- the picked rows -/
def prjL (is : List Int) (t : Tab) : Tab := t.map fun x => (pkV is x.1, x.2)
theorem prjL_sum (is : List Int) : ∀ t : Tab, sumC (prjL is t) = sumC t
  | [] => rfl
  | x :: t => by
    have ih := prjL_sum is t
    unfold prjL at ih ⊢
    rw [List.map_cons, sumC, sumC, ih]
set_option maxRecDepth 100000 in
set_option maxHeartbeats 1000000 in
theorem projectE (A : Option Addr) (n c : Nat) (t : Tab) (iA : Option Addr) (iN iC : Nat) (is : List Int) (w : World) (ht : rTab w A n t) (hi : rInt w iA iN is) (hok : okTab t) (hs : sumC t ≤ 65536) (hi12 : iN ≤ 12) : Calls Tryz.prog 133 #[.slice A n c, .slice iA iN iC] w (Tab2R (prjV is t) w) := by
  obtain ⟨iE, PE⟩ := pEntF w.heap.size
  have HT := Lib.hid ht
  have HI := Lib.hid hi
  have LI := Lib.hid hi.len
  have HL := Lib.hid ht.len
  have HK := Lib.hid hok
  have HS := Lib.hid hs
  have hn : n ≤ 4096 := by have := ht.len; have := hok.1.1; omega
  have H1 := Lib.hid (bvalE A n c t w ht hok.1)
  have d12 : decide (12 < iN) = false := by simp; omega
  clear ht hok hi hs
  go_enter Tryz.func133, Tryz.ntmps133
  go_wp2_with fail
  refine H1.out.mono ?_
  rintro e w1 ⟨rfl, hb1⟩
  have HB1 := Lib.hid hb1
  clear hb1
  go_wp2
  go_loopw [7, 20] (fun v i wr => ∃ k : Nat, k ≤ n ∧ i = .int .i64 k ∧ Below w.heap.size w wr ∧ Hid (ownD (kEntF w.heap.size) wr w.heap.size v k (prjL is (t.take k)))) (fun _ i _ => n - (intOf i).toNat)
  case atStart => exact ⟨0, by omega, rfl, HB1.out, Lib.hid (ownD.nil _ _)⟩
  case round =>
    obtain ⟨k, hk, rfl, hbw, HO⟩ := hrel
    by_cases hlt : k < n
    · obtain ⟨b1, o1, rfl, hc1⟩ := HT.out.opn (by omega)
      obtain ⟨x, hx⟩ := get_some (l := t) (k := k) (by have := HL.out; omega)
      obtain ⟨rA, rN, rC, x1, x2, x3⟩ := hc1 k x hx
      have X3 := Lib.hid x3
      have hrN : rN ≤ 100000 := by have := x3.len; have := (HK.out.1.2.2 x (List.mem_of_getElem? hx)).1; omega
      have hv0 : ∀ j, u7.ownBlock = some j → w.heap.size ≤ j ∧ j < wr.heap.size := HO.out.lt
      have HV0 := Lib.hid hv0
      have HBW := Lib.hid hbw
      have HX : Hid (prjL is (t.take (k + 1)) = prjL is (t.take k) ++ [(pkV is x.1, x.2)]) := Lib.hid (by unfold prjL; rw [take_snoc hx, List.map_append]; rfl)
      have z1 := cell_later hbw x1
      have z2 := cell_later hbw x2
      have HA : Hid (Below w.heap.size w (wr.alloc (.cells #[.slice rA rN rC, .int .i64 x.2] 65))) := Lib.hid (hbw.alloc hbw.size _)
      have c1 : (wr.alloc (.cells #[.slice rA rN rC, .int .i64 x.2] 65)).cell? ⟨wr.heap.size, 0, none⟩ = some (.slice rA rN rC) := by simp
      have c2 : (wr.alloc (.cells #[.slice rA rN rC, .int .i64 x.2] 65)).cell? ⟨wr.heap.size, 1, none⟩ = some (.int .i64 x.2) := by simp
      clear hc1 hx x3 hv0 x1 x2 hbw
      go_wp2_with fail
      have c1d : (wr.alloc (.cells #[.slice rA rN rC, .int .i64 x.2] 65)).drew.cell? ⟨wr.heap.size, 0, none⟩ = some (.slice rA rN rC) := c1
      have c2d : (wr.alloc (.cells #[.slice rA rN rC, .int .i64 x.2] 65)).drew.cell? ⟨wr.heap.size, 1, none⟩ = some (.int .i64 x.2) := c2
      have hk1 : k < 1000000 := by omega
      have hne : some wr.heap.size ≠ u7.ownBlock := fun e => by have := HV0.out _ e.symm; omega
      have hi1 : iN ≤ 100000 := by omega
      go_region_held3 (fun w' => Below w.heap.size w w' ∧ w'.cell? ⟨wr.heap.size, 0, none⟩ = some (.slice rA rN rC) ∧ w'.cell? ⟨wr.heap.size, 1, none⟩ = some (.int .i64 x.2))
        ((go_split_ands; refine ⟨?_, ?_, ?_⟩ <;> (with_reducible first | exact HA.out.drew | exact c1d | exact c2d | (refine Below.alloc ?_ (Below.size (by assumption)) _; assumption) | exact cell_later (ballo _ _) (by assumption) | (exact below_push2 (by assumption) (by assumption) (fun k e => (HV0.out k e).1)) | exact World.grownBy.cell (by assumption) (by assumption) hne | (refine btr ?_ (by assumption); assumption) | exact cell_later (by assumption) (by assumption))))
        (first
          | (go_at_call 207; go_split_ands; (with_reducible refine (picE rA rN rC x.1 iA iN iC is _ (X3.out.later HA.out.drew) (HI.out.later HA.out.drew) hrN hi1).mono ?_); rintro e w' ⟨A1, c1', rfl, hrd1, hcc1, hb1, hfr1, hown1⟩; have HB1 := Lib.hid (btr (ballo wr _) (below_undrew hb1)); have HSZ := Lib.hid (Nat.le_trans HBW.out.size HB1.out.size); have HF1 := Lib.hid (far_fresh (n := iN) (w1 := wr) (fun k e => (HV0.out k e).2) (fun a e => Nat.le_trans (ballo wr _).size (hfr1 a e).1)); have HF2 : Hid (∀ a, A1 = some a → w.heap.size ≤ a.block) := Lib.hid (fun a e => Nat.le_trans HA.out.size (hfr1 a e).1); have HF3 : Hid (ownD (kEntF w.heap.size) (w'.alloc (.cells #[.slice A1 iN c1', .int .i64 x.2] 65)) w.heap.size u7 k (prjL is (t.take k))) := Lib.hid (HO.out.later (HB1.out.alloc HB1.out.size _)); have HF4 : Hid (rVal (w'.alloc (.cells #[.slice A1 iN c1', .int .i64 x.2] 65)) A1 iN (pkV is x.1)) := Lib.hid (rD_Val.1 (hrd1.later (ballo _ (.cells #[.slice A1 iN c1', .int .i64 x.2] 65)))))
          | ((refine step_push _ (by rfl) _ _ (by rfl) PE HF3.out ⟨_, 0, none⟩ ⟨A1, iN, c1', x.2⟩ (pkV is x.1, x.2) (by rfl) (by rfl) (one_block_Ent _ _ _ _ _ _) ⟨⟨HF4.out, rfl⟩, fun _ a e => HF2.out a e⟩ HF1.out hk1 (Nat.le_trans HSZ.out (ballo _ _).size) ?_; intro v' w' hown' hgrow hat)))
      go_split_ands
      have HBF : Hid (Below w.heap.size w w') := Lib.hid (by assumption)
      have HOF : Hid (ownD (kEntF w.heap.size) w' w.heap.size v' (k + 1) (prjL is (t.take (k + 1)))) := Lib.hid (by rw [HX.out]; exact hown')
      clear hown' hgrow hat hown1 hrd1 hfr1 hb1
      go_wp2
      go_roundw
      case rel => exact ⟨k + 1, by omega, by go_num, HBF.out, HOF⟩
      case measure => simp [intOf]; omega
    · obtain rfl : k = n := by omega
      have HTT : t.take k = t := List.take_of_length_le (by have := HL.out; omega)
      obtain ⟨A8, c8, rfl, hcc8, hrd8, hfr8⟩ := HO.out.rd
      rw [HTT] at hrd8
      have H := Lib.hid (bsumE A8 k c8 (prjL is t) wr (rTabF.tab ⟨hrd8, fun _ a e => (hfr8 a e).1⟩) hn (fun y hy => by
        obtain ⟨z, hz, rfl⟩ := List.mem_map.1 hy
        exact HK.out.2 z hz) (by rw [prjL_sum]; exact HS.out) (fun y hy => by
        obtain ⟨z, hz, rfl⟩ := List.mem_map.1 hy
        show (pkV is z.1).length ≤ 12
        rw [pkV_len]; have := LI.out; omega))
      clear hrd8 hfr8 HTT
      go_wp2_with fail
      refine H.out.mono ?_
      rintro e w5 ⟨A9, n9, c9, rfl, hr9, hc9, hb9⟩
      have HR9 : Hid (rTabF w5 w.heap.size A9 n9 (prjV is t)) := Lib.hid (hr9.mono hbw.size)
      have HB9 := Lib.hid (btr hbw hb9)
      clear hr9 hb9
      go_wp2
      go_ret2
      exact ⟨_, _, _, rfl, HR9.out, hc9, HB9.out⟩
end Go.Proofs.YthcalfeoejdcgaaGreatDoor
