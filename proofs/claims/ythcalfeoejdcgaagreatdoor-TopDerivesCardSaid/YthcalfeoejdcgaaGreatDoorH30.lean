import Derived.Test.YthcalfeoejdcgaaGreatDoorH16
import Derived.Deep.RegionLaw
namespace Go.Proofs.YthcalfeoejdcgaaGreatDoor
set_option linter.unusedSimpArgs false
set_option linter.unusedVariables false
section
open Go.BigFrame Go.RowKit
set_option maxRecDepth 100000 in
set_option maxHeartbeats 8000000 in
theorem spcX (x : Nod) (A : Option Addr) (m c : Nat) (l : List Val) (w : World) (h : rVal w A m l) (hl : l.length = arN x.op) :
 Calls Tryz.prog 247 #[.agg #[.int .i64 x.op, .int .i64 x.vk, .int .i64 x.vm, .string x.vs, .string x.nm, .int .i64 x.ar], .slice A m c] w fun e w' => e = .returned (.tuple #[.agg #[.int .i64 ((spcV x l).getD zV).k, .int .i64 ((spcV x l).getD zV).m, .string ((spcV x l).getD zV).s], .bool (spcV x l).isSome]) /\ Below w.heap.size w w' := by
 obtain ⟨op, vk, vm, vs, nm, ar⟩ := x
 simp only at hl ⊢
 have hm := h.len
 have hB0 : Below w.heap.size w ((w.alloc (.cells #[.int .i64 op, .int .i64 vk, .int .i64 vm, .string vs, .string nm, .int .i64 ar] 48)).alloc (.cells #[.int .i64 0, .int .i64 0, .string ⟨#[]⟩] 46)) := (zae _ _).alloc qH _
 by_cases h0 : op = 0
 . subst h0
   go_enter Tryz.func247, Tryz.ntmps247
   go_wp2
   exact bodyPost_ret (v := .tuple #[.agg #[.int .i64 vk, .int .i64 vm, .string vs], .bool true]) (by simp [results, Tryz.results247, go_sem]) rfl ⟨rfl, (zae _ _).alloc qH _⟩
 by_cases h14 : op = 14 ∨ op = 15
 . have hl2 : l.length = 2 := by rcases h14 with rfl | rfl <;> exact hl
   obtain ⟨b, o, rfl, hc⟩ := h.opn qF
   match l, hl2 with
   | [u, v], _ =>
     obtain ⟨x1, x2, x3⟩ := hc 0 u rfl
     obtain ⟨y1, y2, y3⟩ := hc 1 v rfl
     simp only [Nat.zero_mul, Nat.add_zero, Nat.one_mul] at x1 x2 x3 y1 y2 y3
     have hmm : m = 2 := hm.symm
     subst hmm
     have x1 := qM hB0 x1
     have x2 := qM hB0 x2
     have x3 := qM hB0 x3
     have y1 := qM hB0 y1
     have y2 := qM hB0 y2
     have y3 := qM hB0 y3
     have HB0 := qL hB0
     clear h hc hB0 h0
     rcases h14 with rfl | rfl
     . show Calls _ _ _ _ fun e w' => e = .returned (.tuple #[.agg #[.int .i64 (logV u v 0).k, .int .i64 (logV u v 0).m, .string (logV u v 0).s], .bool true]) /\ Below w.heap.size w w'
       have HL := qL fun W => logicX u v 0 (.inl rfl) W
       generalize logV u v 0 = r at HL ⊢
       go_enter Tryz.func247, Tryz.ntmps247
       go_wp2_with fail
       go_region_with (go_at_call 275; refine (HL.out _).mono ?_; rintro e w6 ⟨rfl, hb6⟩; have hb6 := zb0 hb6; have z0 : w6.cell? ⟨w.heap.size + 1, 0, none⟩ = some (.int .i64 0) := qM hb6 qB; have z1 : w6.cell? ⟨w.heap.size + 1, 1, none⟩ = some (.int .i64 0) := qM hb6 qB; have z2 : w6.cell? ⟨w.heap.size + 1, 2, none⟩ = some (.string ⟨#[]⟩) := qM hb6 qB; have zf : ∀ o, w6.frozen? ⟨w.heap.size + 1, o, none⟩ = false := (fun o => (Below.frozen hb6 (p := ⟨w.heap.size + 1, o, none⟩) qE).trans qB); have zs : w.heap.size + 1 < w6.heap.size := qQ qE (Below.size hb6))
       all_goals
        have HB6 := qL (btr HB0.out hb6)
        clear hb6
        go_wp2
        exact bodyPost_ret (v := .tuple #[.agg #[.int .i64 (r).k, .int .i64 (r).m, .string (r).s], .bool true]) (by simp [results, Tryz.results247, go_sem, z0, z1, z2]) rfl ⟨rfl, (((Below.setCell (HB6.out) (p := ⟨_, 0, none⟩) qE _).setCell (p := ⟨_, 1, none⟩) qE _).setCell (p := ⟨_, 2, none⟩) qE _)⟩
     . show Calls _ _ _ _ fun e w' => e = .returned (.tuple #[.agg #[.int .i64 (logV u v 1).k, .int .i64 (logV u v 1).m, .string (logV u v 1).s], .bool true]) /\ Below w.heap.size w w'
       have HL := qL fun W => logicX u v 1 (.inr rfl) W
       generalize logV u v 1 = r at HL ⊢
       go_enter Tryz.func247, Tryz.ntmps247
       go_wp2_with fail
       go_region_with (go_at_call 275; refine (HL.out _).mono ?_; rintro e w6 ⟨rfl, hb6⟩; have hb6 := zb0 hb6; have z0 : w6.cell? ⟨w.heap.size + 1, 0, none⟩ = some (.int .i64 0) := qM hb6 qB; have z1 : w6.cell? ⟨w.heap.size + 1, 1, none⟩ = some (.int .i64 0) := qM hb6 qB; have z2 : w6.cell? ⟨w.heap.size + 1, 2, none⟩ = some (.string ⟨#[]⟩) := qM hb6 qB; have zf : ∀ o, w6.frozen? ⟨w.heap.size + 1, o, none⟩ = false := (fun o => (Below.frozen hb6 (p := ⟨w.heap.size + 1, o, none⟩) qE).trans qB); have zs : w.heap.size + 1 < w6.heap.size := qQ qE (Below.size hb6))
       all_goals
        have HB6 := qL (btr HB0.out hb6)
        clear hb6
        go_wp2
        exact bodyPost_ret (v := .tuple #[.agg #[.int .i64 (r).k, .int .i64 (r).m, .string (r).s], .bool true]) (by simp [results, Tryz.results247, go_sem, z0, z1, z2]) rfl ⟨rfl, (((Below.setCell (HB6.out) (p := ⟨_, 0, none⟩) qE _).setCell (p := ⟨_, 1, none⟩) qE _).setCell (p := ⟨_, 2, none⟩) qE _)⟩
 by_cases h16 : op = 16
 . subst h16
   have hl1 : l.length = 1 := hl
   obtain ⟨b, o, rfl, hc⟩ := h.opn qF
   match l, hl1 with
   | [u], _ =>
     obtain ⟨x1, x2, x3⟩ := hc 0 u rfl
     simp only [Nat.zero_mul, Nat.add_zero] at x1 x2 x3
     have hmm : m = 1 := hm.symm
     subst hmm
     have x1 := qM hB0 x1
     have HB0 := qL hB0
     clear h hc hB0 h0 h14 x2 x3
     show Calls _ _ _ _ fun e w' => e = .returned (.tuple #[.agg #[.int .i64 (booV (u.k == 0)).k, .int .i64 (booV (u.k == 0)).m, .string (booV (u.k == 0)).s], .bool true]) /\ Below w.heap.size w w'
     have HL := qL fun W => zb8 (u.k == 0) W
     generalize booV (u.k == 0) = r at HL ⊢
     go_enter Tryz.func247, Tryz.ntmps247
     go_wp2_with fail
     refine (HL.out _).mono ?_
     rintro e w6 ⟨rfl, hb6⟩
     have z0 : w6.cell? ⟨w.heap.size + 1, 0, none⟩ = some (.int .i64 0) := qM hb6 qB; have z1 : w6.cell? ⟨w.heap.size + 1, 1, none⟩ = some (.int .i64 0) := qM hb6 qB; have z2 : w6.cell? ⟨w.heap.size + 1, 2, none⟩ = some (.string ⟨#[]⟩) := qM hb6 qB; have zf : ∀ o, w6.frozen? ⟨w.heap.size + 1, o, none⟩ = false := (fun o => (Below.frozen hb6 (p := ⟨w.heap.size + 1, o, none⟩) qE).trans qB); have zs : w.heap.size + 1 < w6.heap.size := qQ qE (Below.size hb6)
     have HB6 := qL (btr HB0.out hb6)
     clear hb6
     go_wp2
     exact bodyPost_ret (v := .tuple #[.agg #[.int .i64 (r).k, .int .i64 (r).m, .string (r).s], .bool true]) (by simp [results, Tryz.results247, go_sem, z0, z1, z2]) rfl ⟨rfl, (((Below.setCell (HB6.out) (p := ⟨_, 0, none⟩) qE _).setCell (p := ⟨_, 1, none⟩) qE _).setCell (p := ⟨_, 2, none⟩) qE _)⟩
 by_cases h17 : op = 17
 . subst h17
   have hl3 : l.length = 3 := hl
   obtain ⟨b, o, rfl, hc⟩ := h.opn qF
   match l, hl3 with
   | [u, v, q], _ =>
     obtain ⟨x1, x2, x3⟩ := hc 0 u rfl
     obtain ⟨y1, y2, y3⟩ := hc 1 v rfl
     obtain ⟨q1, q2, q3⟩ := hc 2 q rfl
     simp only [Nat.zero_mul, Nat.add_zero, Nat.one_mul] at x1 x2 x3 y1 y2 y3 q1 q2 q3
     have hmm : m = 3 := hm.symm
     subst hmm
     have x1 := qM hB0 x1
     have x2 := qM hB0 x2
     have x3 := qM hB0 x3
     have y1 := qM hB0 y1
     have y2 := qM hB0 y2
     have y3 := qM hB0 y3
     have q1 := qM hB0 q1
     have q2 := qM hB0 q2
     have q3 := qM hB0 q3
     have HB0 := qL hB0
     clear h hc hB0 h0 h14 h16
     show Calls _ _ _ _ fun e w' => e = .returned (.tuple #[.agg #[.int .i64 (if truV u = 1 then v else q).k, .int .i64 (if truV u = 1 then v else q).m, .string (if truV u = 1 then v else q).s], .bool true]) /\ Below w.heap.size w w'
     obtain ⟨r, hr⟩ : ∃ r : Val, r = if truV u = 1 then v else q := ⟨_, rfl⟩
     rw [<- hr]
     have HL := qL fun W => zjs u W
     generalize truV u = tu at HL hr
     have HRR := qL hr
     clear hr
     go_enter Tryz.func247, Tryz.ntmps247
     go_wp2_with fail
     refine (HL.out _).mono ?_
     rintro e w6 ⟨rfl, hb6⟩
     have z0 : w6.cell? ⟨w.heap.size + 1, 0, none⟩ = some (.int .i64 0) := qM hb6 qB; have z1 : w6.cell? ⟨w.heap.size + 1, 1, none⟩ = some (.int .i64 0) := qM hb6 qB; have z2 : w6.cell? ⟨w.heap.size + 1, 2, none⟩ = some (.string ⟨#[]⟩) := qM hb6 qB; have zf : ∀ o, w6.frozen? ⟨w.heap.size + 1, o, none⟩ = false := (fun o => (Below.frozen hb6 (p := ⟨w.heap.size + 1, o, none⟩) qE).trans qB); have zs : w.heap.size + 1 < w6.heap.size := qQ qE (Below.size hb6)
     have y1 := qM hb6 y1
     have y2 := qM hb6 y2
     have y3 := qM hb6 y3
     have q1 := qM hb6 q1
     have q2 := qM hb6 q2
     have q3 := qM hb6 q3
     have HB6 := qL (btr HB0.out hb6)
     clear hb6 x1 x2 x3
     by_cases ht : tu = 1
     . have ht' : (tu == 1) = true := by simp [ht]
       have HE : Hid (r = v) := qL (by rw [HRR.out, if_pos ht])
       clear ht
       go_wp2
       exact bodyPost_ret (v := .tuple #[.agg #[.int .i64 (v).k, .int .i64 (v).m, .string (v).s], .bool true]) (by simp [results, Tryz.results247, go_sem, z0, z1, z2]) rfl ⟨by rw [HE.out], (((Below.setCell (HB6.out) (p := ⟨_, 0, none⟩) qE _).setCell (p := ⟨_, 1, none⟩) qE _).setCell (p := ⟨_, 2, none⟩) qE _)⟩
     . have ht' : (tu == 1) = false := by simp [ht]
       have HE : Hid (r = q) := qL (by rw [HRR.out, if_neg ht])
       clear ht
       go_wp2
       exact bodyPost_ret (v := .tuple #[.agg #[.int .i64 (q).k, .int .i64 (q).m, .string (q).s], .bool true]) (by simp [results, Tryz.results247, go_sem, z0, z1, z2]) rfl ⟨by rw [HE.out], (((Below.setCell (HB6.out) (p := ⟨_, 0, none⟩) qE _).setCell (p := ⟨_, 1, none⟩) qE _).setCell (p := ⟨_, 2, none⟩) qE _)⟩
 by_cases h18 : op = 18
 . subst h18
   have hl2 : l.length = 2 := hl
   obtain ⟨b, o, rfl, hc⟩ := h.opn qF
   match l, hl2 with
   | [u, v], _ =>
     obtain ⟨x1, x2, x3⟩ := hc 0 u rfl
     obtain ⟨y1, y2, y3⟩ := hc 1 v rfl
     simp only [Nat.zero_mul, Nat.add_zero, Nat.one_mul] at x1 x2 x3 y1 y2 y3
     have hmm : m = 2 := hm.symm
     subst hmm
     have x1 := qM hB0 x1
     have x2 := qM hB0 x2
     have x3 := qM hB0 x3
     have y1 := qM hB0 y1
     have y2 := qM hB0 y2
     have y3 := qM hB0 y3
     have HB0 := qL hB0
     clear h hc hB0 h0 h14 h16 h17
     show Calls _ _ _ _ fun e w' => e = .returned (.tuple #[.agg #[.int .i64 (if u.k = 0 then v else u).k, .int .i64 (if u.k = 0 then v else u).m, .string (if u.k = 0 then v else u).s], .bool true]) /\ Below w.heap.size w w'
     by_cases ht : u.k = 0
     . have ht' : (u.k == 0) = true := by simp [ht]
       rw [if_pos ht]
       clear ht
       go_enter Tryz.func247, Tryz.ntmps247
       go_wp2
       exact bodyPost_ret (v := .tuple #[.agg #[.int .i64 (v).k, .int .i64 (v).m, .string (v).s], .bool true]) (by simp [results, Tryz.results247, go_sem]) rfl ⟨rfl, (zae _ _).alloc qH _⟩
     . have ht' : (u.k == 0) = false := by simp [ht]
       rw [if_neg ht]
       clear ht
       go_enter Tryz.func247, Tryz.ntmps247
       go_wp2
       exact bodyPost_ret (v := .tuple #[.agg #[.int .i64 (u).k, .int .i64 (u).m, .string (u).s], .bool true]) (by simp [results, Tryz.results247, go_sem]) rfl ⟨rfl, (zae _ _).alloc qH _⟩
 have hs : spcV ⟨op, vk, vm, vs, nm, ar⟩ l = none := by
  unfold spcV
  simp only
  rw [if_neg h0, if_neg qF, if_neg qF, if_neg h16, if_neg h17, if_neg h18]
 rw [hs]
 have d0 : (op == 0) = false := by simpa using h0
 have d1 : (op == 14) = false := by simp; omega
 have d2 : (op == 15) = false := by simp; omega
 have d3 : (op == 16) = false := by simpa using h16
 have d4 : (op == 17) = false := by simpa using h17
 have d5 : (op == 18) = false := by simpa using h18
 clear hs h0 h14 h16 h17 h18 h hl hm
 show Calls _ _ _ _ fun e w' => e = .returned (.tuple #[.agg #[.int .i64 0, .int .i64 0, .string ⟨#[]⟩], .bool false]) /\ Below w.heap.size w w'
 go_enter Tryz.func247, Tryz.ntmps247
 go_wp2
 exact bodyPost_ret (v := .tuple #[.agg #[.int .i64 0, .int .i64 0, .string ⟨#[]⟩], .bool false]) (by simp [results, Tryz.results247, go_sem]) rfl ⟨rfl, (zae _ _).alloc qH _⟩
set_option maxRecDepth 100000 in
set_option maxHeartbeats 8000000 in
theorem ariX (op : Int) (a b : Val) (w : World) (h4 : 4 <= op) (h8 : op <= 8) (a1 : -1073741824 <= a.m) (a2 : a.m <= 1073741824) (b1 : -1073741824 <= b.m) (b2 : b.m <= 1073741824) :
 Calls Tryz.prog 281 #[.int .i64 op, .agg #[.int .i64 (a).k, .int .i64 (a).m, .string (a).s], .agg #[.int .i64 (b).k, .int .i64 (b).m, .string (b).s]] w fun e w' => e = .returned (.agg #[.int .i64 (ariV op a b).k, .int .i64 (ariV op a b).m, .string (ariV op a b).s]) /\ Below w.heap.size w w' := by
 have HB0 : Hid (Below w.heap.size w (((w.alloc (.cells #[.int .i64 a.k, .int .i64 a.m, .string a.s] 46)).alloc (.cells #[.int .i64 b.k, .int .i64 b.m, .string b.s] 46)).alloc (.cells #[.int .i64 0, .int .i64 0, .string ⟨#[]⟩] 46))) := qL (((zae _ _).alloc qH _).alloc (by simp; omega) _)
 have hop : op = 4 ∨ op = 5 ∨ op = 6 ∨ op = 7 ∨ op = 8 := by omega
 clear h4 h8
 rcases hop with rfl | rfl | rfl | rfl | rfl
 . by_cases hk : a.k = 4
   . have hk' : (a.k == 4) = true := by simp [hk]
     have HK := qL hk
     rw [show ariV 4 a b = momV (a.m + b.m) from by show (if a.k = 4 then momV (a.m + b.m) else intV (a.m + b.m)) = _; rw [if_pos hk]]
     clear hk
     have HC := qL fun W => zpg (a.m + b.m) W
     have hw : IntKind.i64.wrap (a.m + b.m) = a.m + b.m := by rw [IntKind.wrap_i64]; omega
     generalize hr : momV (a.m + b.m) = r at HC ⊢
     clear hr
     go_enter Tryz.func281, Tryz.ntmps281
     go_wp2_with fail
     refine (HC.out _).mono ?_
     rintro e w6 ⟨rfl, hb6⟩
     have z0 : w6.cell? ⟨w.heap.size + 2, 0, none⟩ = some (.int .i64 0) := qM hb6 qB; have z1 : w6.cell? ⟨w.heap.size + 2, 1, none⟩ = some (.int .i64 0) := qM hb6 qB; have z2 : w6.cell? ⟨w.heap.size + 2, 2, none⟩ = some (.string ⟨#[]⟩) := qM hb6 qB; have zf : ∀ o, w6.frozen? ⟨w.heap.size + 2, o, none⟩ = false := (fun o => (Below.frozen hb6 (p := ⟨w.heap.size + 2, o, none⟩) qE).trans qB); have zs : w.heap.size + 2 < w6.heap.size := qQ qE (Below.size hb6)
     have HB6 := qL (btr HB0.out hb6)
     clear hb6
     go_wp2
     exact bodyPost_ret (v := .agg #[.int .i64 (r).k, .int .i64 (r).m, .string (r).s]) (by simp [results, Tryz.results281, go_sem, z0, z1, z2]) rfl ⟨rfl, (((Below.setCell (HB6.out) (p := ⟨_, 0, none⟩) qE _).setCell (p := ⟨_, 1, none⟩) qE _).setCell (p := ⟨_, 2, none⟩) qE _)⟩
   . have hk' : (a.k == 4) = false := by simp [hk]
     rw [show ariV 4 a b = intV (a.m + b.m) from by show (if a.k = 4 then momV (a.m + b.m) else intV (a.m + b.m)) = _; rw [if_neg hk]]
     clear hk
     have HC := qL fun W => addX a.m b.m W a1 a2 b1 b2
     generalize hr : intV (a.m + b.m) = r at HC ⊢
     clear hr
     go_enter Tryz.func281, Tryz.ntmps281
     go_wp2_with fail
     refine (HC.out _).mono ?_
     rintro e w5 ⟨m, ok, rfl, hv, hb5⟩
     have z0 : w5.cell? ⟨w.heap.size + 2, 0, none⟩ = some (.int .i64 0) := qM hb5 qB; have z1 : w5.cell? ⟨w.heap.size + 2, 1, none⟩ = some (.int .i64 0) := qM hb5 qB; have z2 : w5.cell? ⟨w.heap.size + 2, 2, none⟩ = some (.string ⟨#[]⟩) := qM hb5 qB; have zf : ∀ o, w5.frozen? ⟨w.heap.size + 2, o, none⟩ = false := (fun o => (Below.frozen hb5 (p := ⟨w.heap.size + 2, o, none⟩) qE).trans qB); have zs : w.heap.size + 2 < w5.heap.size := qQ qE (Below.size hb5)
     have HB5 := qL (btr HB0.out hb5)
     clear hb5
     have HN := qL fun W => zdg m ok W
     rw [hv] at HN
     clear hv
     go_wp2_with fail
     refine (HN.out _).mono ?_
     rintro e w6 ⟨rfl, hb6⟩
     have z0 := qM hb6 z0; have z1 := qM hb6 z1; have z2 := qM hb6 z2; have zf : ∀ o, w6.frozen? ⟨w.heap.size + 2, o, none⟩ = false := (fun o => (Below.frozen hb6 (p := ⟨w.heap.size + 2, o, none⟩) zs).trans (zf o)); have zs : w.heap.size + 2 < w6.heap.size := qQ zs (Below.size hb6)
     have HB6 := qL (btr HB5.out hb6)
     clear hb6
     go_wp2
     exact bodyPost_ret (v := .agg #[.int .i64 (r).k, .int .i64 (r).m, .string (r).s]) (by simp [results, Tryz.results281, go_sem, z0, z1, z2]) rfl ⟨rfl, (((Below.setCell (HB6.out) (p := ⟨_, 0, none⟩) qE _).setCell (p := ⟨_, 1, none⟩) qE _).setCell (p := ⟨_, 2, none⟩) qE _)⟩
 . by_cases hk : a.k = 4 /\ b.k = 2
   . have hk' : (a.k == 4) = true := by simp [hk.1]
     have hk2 : (b.k == 2) = true := by simp [hk.2]
     rw [show ariV 5 a b = momV (a.m - b.m) from by show (if a.k = 4 /\ b.k = 2 then momV (a.m - b.m) else intV (a.m - b.m)) = _; rw [if_pos hk]]
     clear hk
     have HC := qL fun W => zpg (a.m - b.m) W
     have hw : IntKind.i64.wrap (a.m - b.m) = a.m - b.m := by rw [IntKind.wrap_i64]; omega
     generalize hr : momV (a.m - b.m) = r at HC ⊢
     clear hr
     go_enter Tryz.func281, Tryz.ntmps281
     go_wp2_with fail
     refine (HC.out _).mono ?_
     rintro e w6 ⟨rfl, hb6⟩
     have z0 : w6.cell? ⟨w.heap.size + 2, 0, none⟩ = some (.int .i64 0) := qM hb6 qB; have z1 : w6.cell? ⟨w.heap.size + 2, 1, none⟩ = some (.int .i64 0) := qM hb6 qB; have z2 : w6.cell? ⟨w.heap.size + 2, 2, none⟩ = some (.string ⟨#[]⟩) := qM hb6 qB; have zf : ∀ o, w6.frozen? ⟨w.heap.size + 2, o, none⟩ = false := (fun o => (Below.frozen hb6 (p := ⟨w.heap.size + 2, o, none⟩) qE).trans qB); have zs : w.heap.size + 2 < w6.heap.size := qQ qE (Below.size hb6)
     have HB6 := qL (btr HB0.out hb6)
     clear hb6
     go_wp2
     exact bodyPost_ret (v := .agg #[.int .i64 (r).k, .int .i64 (r).m, .string (r).s]) (by simp [results, Tryz.results281, go_sem, z0, z1, z2]) rfl ⟨rfl, (((Below.setCell (HB6.out) (p := ⟨_, 0, none⟩) qE _).setCell (p := ⟨_, 1, none⟩) qE _).setCell (p := ⟨_, 2, none⟩) qE _)⟩
   . rw [show ariV 5 a b = intV (a.m - b.m) from by show (if a.k = 4 /\ b.k = 2 then momV (a.m - b.m) else intV (a.m - b.m)) = _; rw [if_neg hk]]
     have HC := qL fun W => subX a.m b.m W a1 a2 b1 b2
     generalize hr : intV (a.m - b.m) = r at HC ⊢
     clear hr
     have hkk : ((a.k == 4) = true /\ (b.k == 2) = false) ∨ (a.k == 4) = false := by
      by_cases k1 : a.k = 4
      . left; exact ⟨by simp [k1], by simp; omega⟩
      . right; simp [k1]
     clear hk
     rcases hkk with ⟨hk', hk2⟩ | hk'
     all_goals
      go_enter Tryz.func281, Tryz.ntmps281
      go_wp2_with fail
      refine (HC.out _).mono ?_
      rintro e w5 ⟨m, ok, rfl, hv, hb5⟩
      have z0 : w5.cell? ⟨w.heap.size + 2, 0, none⟩ = some (.int .i64 0) := qM hb5 qB; have z1 : w5.cell? ⟨w.heap.size + 2, 1, none⟩ = some (.int .i64 0) := qM hb5 qB; have z2 : w5.cell? ⟨w.heap.size + 2, 2, none⟩ = some (.string ⟨#[]⟩) := qM hb5 qB; have zf : ∀ o, w5.frozen? ⟨w.heap.size + 2, o, none⟩ = false := (fun o => (Below.frozen hb5 (p := ⟨w.heap.size + 2, o, none⟩) qE).trans qB); have zs : w.heap.size + 2 < w5.heap.size := qQ qE (Below.size hb5)
      have HB5 := qL (btr HB0.out hb5)
      clear hb5
      have HN := qL fun W => zdg m ok W
      rw [hv] at HN
      clear hv
      go_wp2_with fail
      refine (HN.out _).mono ?_
      rintro e w6 ⟨rfl, hb6⟩
      have z0 := qM hb6 z0; have z1 := qM hb6 z1; have z2 := qM hb6 z2; have zf : ∀ o, w6.frozen? ⟨w.heap.size + 2, o, none⟩ = false := (fun o => (Below.frozen hb6 (p := ⟨w.heap.size + 2, o, none⟩) zs).trans (zf o)); have zs : w.heap.size + 2 < w6.heap.size := qQ zs (Below.size hb6)
      have HB6 := qL (btr HB5.out hb6)
      clear hb6
      go_wp2
      exact bodyPost_ret (v := .agg #[.int .i64 (r).k, .int .i64 (r).m, .string (r).s]) (by simp [results, Tryz.results281, go_sem, z0, z1, z2]) rfl ⟨rfl, (((Below.setCell (HB6.out) (p := ⟨_, 0, none⟩) qE _).setCell (p := ⟨_, 1, none⟩) qE _).setCell (p := ⟨_, 2, none⟩) qE _)⟩
 . rw [show ariV 6 a b = intV (a.m * b.m) from rfl]
   have HC := qL fun W => mulX a.m b.m W a1 a2 b1 b2
   generalize hr : intV (a.m * b.m) = r at HC ⊢
   clear hr
   go_enter Tryz.func281, Tryz.ntmps281
   go_wp2_with fail
   refine (HC.out _).mono ?_
   rintro e w5 ⟨m, ok, rfl, hv, hb5⟩
   have z0 : w5.cell? ⟨w.heap.size + 2, 0, none⟩ = some (.int .i64 0) := qM hb5 qB; have z1 : w5.cell? ⟨w.heap.size + 2, 1, none⟩ = some (.int .i64 0) := qM hb5 qB; have z2 : w5.cell? ⟨w.heap.size + 2, 2, none⟩ = some (.string ⟨#[]⟩) := qM hb5 qB; have zf : ∀ o, w5.frozen? ⟨w.heap.size + 2, o, none⟩ = false := (fun o => (Below.frozen hb5 (p := ⟨w.heap.size + 2, o, none⟩) qE).trans qB); have zs : w.heap.size + 2 < w5.heap.size := qQ qE (Below.size hb5)
   have HB5 := qL (btr HB0.out hb5)
   clear hb5
   have HN := qL fun W => zdg m ok W
   rw [hv] at HN
   clear hv
   go_wp2_with fail
   refine (HN.out _).mono ?_
   rintro e w6 ⟨rfl, hb6⟩
   have z0 := qM hb6 z0; have z1 := qM hb6 z1; have z2 := qM hb6 z2; have zf : ∀ o, w6.frozen? ⟨w.heap.size + 2, o, none⟩ = false := (fun o => (Below.frozen hb6 (p := ⟨w.heap.size + 2, o, none⟩) zs).trans (zf o)); have zs : w.heap.size + 2 < w6.heap.size := qQ zs (Below.size hb6)
   have HB6 := qL (btr HB5.out hb6)
   clear hb6
   go_wp2
   exact bodyPost_ret (v := .agg #[.int .i64 (r).k, .int .i64 (r).m, .string (r).s]) (by simp [results, Tryz.results281, go_sem, z0, z1, z2]) rfl ⟨rfl, (((Below.setCell (HB6.out) (p := ⟨_, 0, none⟩) qE _).setCell (p := ⟨_, 1, none⟩) qE _).setCell (p := ⟨_, 2, none⟩) qE _)⟩
 . rw [show ariV 7 a b = dvV a.m b.m from rfl]
   have HC := qL fun W => divX a.m b.m W a1 a2 b1 b2
   generalize hr : dvV a.m b.m = r at HC ⊢
   clear hr
   go_enter Tryz.func281, Tryz.ntmps281
   go_wp2_with fail
   refine (HC.out _).mono ?_
   rintro e w5 ⟨m, ok, rfl, hv, hb5⟩
   have z0 : w5.cell? ⟨w.heap.size + 2, 0, none⟩ = some (.int .i64 0) := qM hb5 qB; have z1 : w5.cell? ⟨w.heap.size + 2, 1, none⟩ = some (.int .i64 0) := qM hb5 qB; have z2 : w5.cell? ⟨w.heap.size + 2, 2, none⟩ = some (.string ⟨#[]⟩) := qM hb5 qB; have zf : ∀ o, w5.frozen? ⟨w.heap.size + 2, o, none⟩ = false := (fun o => (Below.frozen hb5 (p := ⟨w.heap.size + 2, o, none⟩) qE).trans qB); have zs : w.heap.size + 2 < w5.heap.size := qQ qE (Below.size hb5)
   have HB5 := qL (btr HB0.out hb5)
   clear hb5
   have HN := qL fun W => zdg m ok W
   rw [hv] at HN
   clear hv
   go_wp2_with fail
   refine (HN.out _).mono ?_
   rintro e w6 ⟨rfl, hb6⟩
   have z0 := qM hb6 z0; have z1 := qM hb6 z1; have z2 := qM hb6 z2; have zf : ∀ o, w6.frozen? ⟨w.heap.size + 2, o, none⟩ = false := (fun o => (Below.frozen hb6 (p := ⟨w.heap.size + 2, o, none⟩) zs).trans (zf o)); have zs : w.heap.size + 2 < w6.heap.size := qQ zs (Below.size hb6)
   have HB6 := qL (btr HB5.out hb6)
   clear hb6
   go_wp2
   exact bodyPost_ret (v := .agg #[.int .i64 (r).k, .int .i64 (r).m, .string (r).s]) (by simp [results, Tryz.results281, go_sem, z0, z1, z2]) rfl ⟨rfl, (((Below.setCell (HB6.out) (p := ⟨_, 0, none⟩) qE _).setCell (p := ⟨_, 1, none⟩) qE _).setCell (p := ⟨_, 2, none⟩) qE _)⟩
 . rw [show ariV 8 a b = mdV a.m b.m from rfl]
   have HC := qL fun W => modX a.m b.m W a1 a2 b1 b2
   generalize hr : mdV a.m b.m = r at HC ⊢
   clear hr
   go_enter Tryz.func281, Tryz.ntmps281
   go_wp2_with fail
   refine (HC.out _).mono ?_
   rintro e w5 ⟨m, ok, rfl, hv, hb5⟩
   have z0 : w5.cell? ⟨w.heap.size + 2, 0, none⟩ = some (.int .i64 0) := qM hb5 qB; have z1 : w5.cell? ⟨w.heap.size + 2, 1, none⟩ = some (.int .i64 0) := qM hb5 qB; have z2 : w5.cell? ⟨w.heap.size + 2, 2, none⟩ = some (.string ⟨#[]⟩) := qM hb5 qB; have zf : ∀ o, w5.frozen? ⟨w.heap.size + 2, o, none⟩ = false := (fun o => (Below.frozen hb5 (p := ⟨w.heap.size + 2, o, none⟩) qE).trans qB); have zs : w.heap.size + 2 < w5.heap.size := qQ qE (Below.size hb5)
   have HB5 := qL (btr HB0.out hb5)
   clear hb5
   have HN := qL fun W => zdg m ok W
   rw [hv] at HN
   clear hv
   go_wp2_with fail
   refine (HN.out _).mono ?_
   rintro e w6 ⟨rfl, hb6⟩
   have z0 := qM hb6 z0; have z1 := qM hb6 z1; have z2 := qM hb6 z2; have zf : ∀ o, w6.frozen? ⟨w.heap.size + 2, o, none⟩ = false := (fun o => (Below.frozen hb6 (p := ⟨w.heap.size + 2, o, none⟩) zs).trans (zf o)); have zs : w.heap.size + 2 < w6.heap.size := qQ zs (Below.size hb6)
   have HB6 := qL (btr HB5.out hb6)
   clear hb6
   go_wp2
   exact bodyPost_ret (v := .agg #[.int .i64 (r).k, .int .i64 (r).m, .string (r).s]) (by simp [results, Tryz.results281, go_sem, z0, z1, z2]) rfl ⟨rfl, (((Below.setCell (HB6.out) (p := ⟨_, 0, none⟩) qE _).setCell (p := ⟨_, 1, none⟩) qE _).setCell (p := ⟨_, 2, none⟩) qE _)⟩
end
end Go.Proofs.YthcalfeoejdcgaaGreatDoor
