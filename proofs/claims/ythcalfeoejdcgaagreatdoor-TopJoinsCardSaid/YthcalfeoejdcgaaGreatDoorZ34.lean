/- TopJoins: the calls by contract, in the run's books. -/
import Derived.Test.YthcalfeoejdcgaaGreatDoorZ32
import Derived.Test.YthcalfeoejdcgaaGreatDoorZ33
namespace Go.Proofs.YthcalfeoejdcgaaGreatDoor
open Go.RowKit Go.RowKit Go.BigFrame
set_option linter.unusedSimpArgs false
set_option linter.unusedVariables false

section
variable {c : Nat} {t0 t1 t2 : Tab}
theorem T6_ok {n : Int} {tb : Nat → Tab} (hc : (anD3 n).tmod 3 = c) : (T6 c).Ok (ETab tb (numG n)) Tryz.prog := by
  have k := T8_ok (c := c) (n := n) (tb := tb) hc
  exact ⟨k.ty, k.fn, k.eqs, k.mixed, k.ex, k.hint, k.hlen⟩
theorem o12 : oC.length ≤ 12 := by decide
theorem c12 : cC.length ≤ 12 := by decide
theorem joJ_ok (hc : c ≤ 2) (h : TJ t0 t1 t2) : ∀ g ∈ joJ c, g.cs.length ≤ 12 ∧ g.cs'.length ≤ 12 ∧ okJo g.left g.cs g.cs' g.names g.others g.items (tbJ c t0 t1 t2 g.d) (tbJ c t0 t1 t2 g.du) ∧ tbJ c t0 t1 t2 g.d2 = joiV g.left (g.names.map (idxC g.cs)) (g.others.map (idxC g.cs')) (g.items.map fun x => idxC g.cs' x.co) (tbJ c t0 t1 t2 g.d) (tbJ c t0 t1 t2 g.du) := fun g hg => by
  obtain ⟨_, _, _, e1, e2, e3, _, _⟩ := namesJ hc
  have kl : (keyJ c).length ≤ 12 := cases3 (P := fun c => (keyJ c).length ≤ 12) hc (by decide) (by decide) (by decide)
  unfold joJ at hg
  simp only [List.mem_cons, List.not_mem_nil, or_false] at hg
  rcases hg with rfl | rfl | rfl
  · refine ⟨o12, kl, h.okJ2 hc, ?_⟩
    show tbJ c t0 t1 t2 6 = joiV false ((nsJ c).map (idxC oC)) ((osJ c).map (idxC (keyJ c))) [] _ _
    rw [e1, e3]; rfl
  · refine ⟨o12, c12, h.okJ hc true, ?_⟩
    show tbJ c t0 t1 t2 9 = joiV true ((nsJ c).map (idxC oC)) ((osJ c).map (idxC cC)) (itsJ.map fun x => idxC cC x.co) _ _
    rw [e1, e2, itsJ_idx]; rfl
  · refine ⟨o12, c12, h.okJ hc false, ?_⟩
    show tbJ c t0 t1 t2 10 = joiV false ((nsJ c).map (idxC oC)) ((osJ c).map (idxC cC)) (itsJ.map fun x => idxC cC x.co) _ _
    rw [e1, e2, itsJ_idx]; rfl
theorem seJ_ok (hc : c ≤ 2) (h : TJ t0 t1 t2) : ∀ g ∈ seJ c, g.cs.length ≤ 12 ∧ g.cs'.length ≤ 12 ∧ okJn g.cs g.cs' g.names g.others [] (tbJ c t0 t1 t2 g.d) (tbJ c t0 t1 t2 g.du) ∧ tbJ c t0 t1 t2 g.d2 = semV g.left (g.names.map (idxC g.cs)) (g.others.map (idxC g.cs')) (tbJ c t0 t1 t2 g.d) (tbJ c t0 t1 t2 g.du) := fun g hg => by
  obtain ⟨_, _, _, e1, e2, e3, _, _⟩ := namesJ hc
  unfold seJ at hg
  simp only [List.mem_cons, List.not_mem_nil, or_false] at hg
  rcases hg with rfl | rfl
  · refine ⟨o12, c12, h.jn hc [] (by decide), ?_⟩
    show tbJ c t0 t1 t2 5 = semV true ((nsJ c).map (idxC oC)) ((osJ c).map (idxC cC)) _ _
    rw [e1, e2]; rfl
  · refine ⟨o12, c12, h.jn hc [] (by decide), ?_⟩
    show tbJ c t0 t1 t2 7 = semV false ((nsJ c).map (idxC oC)) ((osJ c).map (idxC cC)) _ _
    rw [e1, e2]; rfl
theorem T6_sp {n : Int} (hc : c ≤ 2) (h : TJ t0 t1 t2) : SpOk (ETab (tbJ c t0 t1 t2) (numG n)) Tryz.prog (T6 c) := fun f g hf args s v s' hx D ρ w args' hs hr => by
  have ok2 : ∀ k, k < 32 → (tbJ c t0 t1 t2 k).length ≤ 4096 ∧ ∀ x ∈ tbJ c t0 t1 t2 k, x.1.length ≤ 12 := fun k _ => ⟨(h.ok k).1.1, fun x hx => ((h.ok k).1.2.2 x hx).1⟩
  have hf : cond (Nat.beq f 62) (some (sp62g (clJ c))) (cond (Nat.beq f 129) (some sp129) (cond (Nat.beq f 134) (some (sp134 (joJ c))) (cond (Nat.beq f 135) (some (sp135 (seJ c))) (cond (Nat.beq f 133) (some (sp133 (prJ c))) (cond (Nat.beq f 136) (some (sp1 diJ)) (cond (Nat.beq f 21) (some (sp2 exJ)) (cond (Nat.beq f 17) (some (sp17 fun a b => (Nat.beq a 5 && Nat.beq b 6) || (Nat.beq a 7 && Nat.beq b 8))) (cond (Nat.beq f 89) (some (sp89 (csJ c))) (cond (Nat.beq f 123) (some sp123) (cond (Nat.beq f 234) (some sp234) none)))))))))) = some g := hf
  have step : ∀ {m : Nat} {x : List Value → ASt → Option (Value × ASt)} {y : Option (List Value → ASt → Option (Value × ASt))}, cond (Nat.beq f m) (some x) y = some g → (f = m ∧ x = g) ∨ y = some g := fun {m x y} h => by
    cases hz : Nat.beq f m
    · rw [hz] at h; exact .inr h
    · rw [hz] at h; exact .inl ⟨Nat.eq_of_beq_eq_true hz, Option.some.inj h⟩
  have hcs := csJ_ok hc
  rcases step hf with ⟨rfl, rfl⟩ | hf
  · refine sp62g_ok (fun p hp => ?_) hx hs hr
    unfold clJ at hp
    simp only [List.mem_cons, List.not_mem_nil, or_false] at hp
    rcases hp with rfl | rfl | rfl | rfl | rfl
    · exact ⟨okCols_o, h.ok (c := c) 0, h.r0⟩
    · exact ⟨okCols_c, h.ok (c := c) 1, h.r1⟩
    · exact ⟨okCols_o, h.ok (c := c) 2, h.r2⟩
    · exact ⟨hcs (keyJ c) (by simp [csJ]), h.ok (c := c) 3, fun x hx => h.krow hc hx⟩
    · refine ⟨hcs (keyJ c) (by simp [csJ]), h.ok (c := c) 4, fun x hx => ?_⟩
      obtain ⟨_, y, hy, e⟩ := dis_mem (show x ∈ disV (prjV [oiJ c] t1) from hx)
      rw [← e]
      exact h.krow hc hy
  rcases step hf with ⟨rfl, rfl⟩ | hf
  · exact sp129_ok ok2 hx hs hr
  rcases step hf with ⟨rfl, rfl⟩ | hf
  · exact sp134_ok (joJ_ok hc h) hx hs hr
  rcases step hf with ⟨rfl, rfl⟩ | hf
  · exact sp135_ok (seJ_ok hc h) hx hs hr
  rcases step hf with ⟨rfl, rfl⟩ | hf
  · refine sp133_ok (fun g hg => ?_) hx hs hr
    unfold prJ at hg
    rw [List.mem_singleton] at hg
    subst hg
    exact ⟨by simp, h.o1, Int.le_trans h.s1 (by omega), rfl⟩
  rcases step hf with ⟨rfl, rfl⟩ | hf
  · refine sp1_ok (fun p hp A n c' w hn ht => ?_) hx hs hr
    unfold diJ at hp
    rw [List.mem_singleton] at hp
    subst hp
    exact distinctE A n c' _ w ht (h.ok (c := c) 3)
  rcases step hf with ⟨rfl, rfl⟩ | hf
  · refine sp2_ok (fun p hp A n c' B m d w hn hm ht hu => ?_) hx hs hr
    unfold exJ at hp
    rw [List.mem_singleton] at hp
    subst hp
    exact exceptE A n c' B m d _ _ w ht hu hm (h.ok (c := c) 0) (h.ok (c := c) 5)
  rcases step hf with ⟨rfl, rfl⟩ | hf
  · refine sp17_ok (fun a b he => ?_) ok2 hx hs hr
    simp only [Bool.or_eq_true, Bool.and_eq_true] at he
    rcases he with ⟨h1, h2⟩ | ⟨h1, h2⟩
    · rw [Nat.eq_of_beq_eq_true h1, Nat.eq_of_beq_eq_true h2]; exact (h.same c).1
    · rw [Nat.eq_of_beq_eq_true h1, Nat.eq_of_beq_eq_true h2]; exact (h.same c).2
  rcases step hf with ⟨rfl, rfl⟩ | hf
  · exact sp89_ok hcs hx hs hr
  rcases step hf with ⟨rfl, rfl⟩ | hf
  · exact sp123_ok hx hs hr
  rcases step hf with ⟨rfl, rfl⟩ | hf
  · exact sp234_ok hx hs hr
  · cases hf
theorem R6_ok {n : Int} (hc : c ≤ 2) (h : TJ t0 t1 t2) (ec : (anD3 n).tmod 3 = c) : CodeOk (ETab (tbJ c t0 t1 t2) (numG n)) Tryz.prog (R6 c) :=
  (rn_ok (T6_ok ec) (adraw_ok (T6_ok ec)) (T6_sp hc h) 1000).1
end
end Go.Proofs.YthcalfeoejdcgaaGreatDoor
