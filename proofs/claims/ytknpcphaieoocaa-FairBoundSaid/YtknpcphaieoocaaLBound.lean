/-
  FairBound: for every list of numbers and every number the law returns true: owners that always have ready tasks are never further apart, in proportion to their shares, than one task of the greatest cost. No conditions.
-/
import Derived.Test.YtknpcphaieoocaaRdy
namespace Go.Proofs.Ytknpcphaieoocaa.lawFairBound
open Go.ChangeShapes Go.WideShapes Go.ChangeAt Go.RowKit
set_option linter.unusedSimpArgs false
set_option linter.unusedVariables false
theorem ready_snoc {w0 wB : World} {g : Nat} {A : Option Addr} {n c : Nat} {zs : List Int} {v : Value} {ts : List Task} {t : Task} {w : World} (h : S3 w0 wB g A n c zs v (ts.length + 1) (flat enc8 ts ++ enc8 t) w) :
    S3 w0 wB g A n c zs v (ts ++ [t]).length (flat enc8 (ts ++ [t])) w := by
  rw [List.length_append, flat_append]; simpa [flat] using h
theorem mul_bd {a x b : Int} (h0 : 0 ≤ a) (h1 : a ≤ b) (h2 : 0 ≤ x) (h3 : x ≤ 6) : 0 ≤ a * x ∧ a * x ≤ b * 6 := ⟨Int.mul_nonneg h0 h2, Int.mul_le_mul h1 h3 h2 (by omega)⟩
theorem mul_small {a x b : Int} (h0 : 0 ≤ a) (h1 : a ≤ b) (h2 : 0 ≤ x) (h3 : x ≤ 6) (h4 : b ≤ 100000) : IntKind.i64.wrap (a * x) = a * x := by
  have := mul_bd h0 h1 h2 h3
  rw [IntKind.wrap_i64]
  omega
theorem BI_start (ss : List (ByteArray × Int)) : BI ss [] 0 := fun i j x y hx hy => by
  show (0 : Int) * y.2 ≤ 0 * x.2 + 0 * y.2
  omega
theorem goodS_snoc {ss : List (ByteArray × Int)} {k : Nat} {z : Int} (hl : ss.length = k) (h : ∀ (j : Nat) (x : ByteArray × Int), ss[j]? = some x → x.1 = nm j ∧ 1 ≤ x.2 ∧ x.2 ≤ 6) (h1 : 1 ≤ z) (h2 : z ≤ 6) :
    ∀ (j : Nat) (x : ByteArray × Int), (ss ++ [(nm k, z)])[j]? = some x → x.1 = nm j ∧ 1 ≤ x.2 ∧ x.2 ≤ 6 := fun j x hx => by
  rcases Nat.lt_or_ge j ss.length with hj | hj
  · rw [List.getElem?_append_left hj] at hx
    exact h j x hx
  · rw [List.getElem?_append_right hj] at hx
    have : j = ss.length := by
      have := (List.getElem?_eq_some_iff.1 hx).1
      simp at this
      omega
    subst this
    simp at hx
    subst hx
    exact ⟨by rw [hl], h1, h2⟩
theorem prow_of_own3 {w : World} {base e : Nat} {v : Value} {n : Nat} {us : List (ByteArray × Int)} (h : w.ownsRow base e 2 v n (flat enc2 us)) : ∃ A c, v = .slice A n c ∧ Prow w A n us ∧ (∀ a, A = some a → base ≤ a.block) := by
  have hlt := h.lt
  obtain ⟨A, c, rfl, hr⟩ := prow_of_own h
  exact ⟨A, c, rfl, hr, fun a ha => by subst ha; exact (hlt a.block rfl).1⟩

set_option maxRecDepth 100000 in
set_option maxHeartbeats 4000000 in
theorem core (A : Option Addr) (n c : Nat) (zs : List Int) (a1 : Int) (W : World) (hI : Irow W A n zs) (h1 : -9223372036854775808 ≤ a1 ∧ a1 ≤ 9223372036854775807) :
    Calls Try.prog 6 #[.slice A n c, .int .i64 a1] W fun e w' => e = .returned (.bool true) ∧ Below W.heap.size W w' := by
  obtain ⟨hr, hbd, hA⟩ := hI
  by_cases hn : n ≤ 200
  · have HPL := Lib.hid (fun w => placeE a1 40 w (by omega) (by omega) h1)
    have HPB := Lib.hid (placeV_bd a1 40 (by omega))
    generalize placeV a1 40 = pl at HPL HPB
    have hp0 := HPB.out.1
    have hp1 := HPB.out.2
    have B0 : Below W.heap.size W (W.alloc (.cells #[.slice A n c, .int .i64 0] 49)) := (Below.refl _ _).alloc (Nat.le_refl _) _
    have hG : Gst (W.alloc (.cells #[.slice A n c, .int .i64 0] 49)) W.heap.size A n c zs := ⟨⟨0, by omega, by simp⟩, by simp, by simp, hr.later B0, fun hp a ha => by have := hA hp a ha; omega, by omega, hbd⟩
    have hsz0 : (W.alloc (.cells #[.slice A n c, .int .i64 0] 49)).heap.size = W.heap.size + 1 := World.size_alloc _ _
    have HB := Lib.hid B0
    have HGA := Lib.hid hG
    have HA := Lib.hid hA
    have HSZ := Lib.hid hsz0
    clear B0 hG hr hbd hA h1 hsz0
    go_enter Try.func6, Try.ntmps6
    go_wp2_with fail
    refine (nextN _ _ _ _ _ 3 _ HGA.out (by omega) (by omega)).mono ?_
    rintro e w1 ⟨r0, rfl, hr0, hG1, hgr⟩
    have HB := Lib.hid (HB.out.trans (below_of_grown hgr (by have := HSZ.out; omega) (fun k hk => by cases hk; exact Nat.le_refl _)))
    have hgw : W.heap.size < w1.heap.size := by have := hgr.size; have := HSZ.out; omega
    obtain ⟨n2, hn2⟩ : ∃ n2 : Nat, n2 = 2 + r0 := ⟨_, rfl⟩
    have e1 : (2 : Int) + (r0 : Int) = (n2 : Int) := by omega
    have e2 : IntKind.i64.wrap ((2 : Int) + (r0 : Int)) = (n2 : Int) := by rw [IntKind.wrap_i64]; omega
    have hn20 : 2 ≤ n2 := by omega
    have hn21 : n2 ≤ 4 := by omega
    have HS2 : Hid (S2 W (w1.alloc (.cells #[.string ⟨#[]⟩, .string ⟨#[97]⟩, .string ⟨#[98]⟩, .string ⟨#[99]⟩] 9)) W.heap.size A n c zs (.slice none 0 0) 0 (flat enc2 []) (.slice none 0 0) 0 (flat enc2 []) (w1.alloc (.cells #[.string ⟨#[]⟩, .string ⟨#[97]⟩, .string ⟨#[98]⟩, .string ⟨#[99]⟩] 9))) :=
      Lib.hid ⟨hG1.later ((Below.refl _ _).alloc (Nat.le_refl _) _), HB.out.alloc (by omega) _, ⟨rfl, rfl, rfl, Nat.le_refl _, fun _ _ _ => rfl⟩, World.ownsRow_nil _ _ _ _, World.ownsRow_nil _ _ _ _, fun k hk => by simp [Value.ownBlock] at hk, by simp; omega, Nat.le_refl _, HA.out⟩
    have HN := Lib.hid (names_cells w1)
    have hnb := Lib.hid (show some w1.heap.size ≠ some W.heap.size from fun e => by simp at e; omega)
    have HHH := Lib.hid hn2
    clear hG1 hgr HGA hn2 hr0
    go_wp2_with (go_at_call 13; refine (namesE _).mono ?_; rintro e w1 ⟨rfl, rfl⟩)
    go_loopw [6, 37] (fun v i wv => ∃ (k : Nat) (ss : List (ByteArray × Int)), i = .int .i64 k ∧ k ≤ n2 ∧ Hid (ss.length = k ∧ (∀ (j : Nat) (x : ByteArray × Int), ss[j]? = some x → x.1 = nm j ∧ 1 ≤ x.2 ∧ x.2 ≤ 6) ∧ S2 W (w1.alloc (.cells #[.string ⟨#[]⟩, .string ⟨#[97]⟩, .string ⟨#[98]⟩, .string ⟨#[99]⟩] 9)) W.heap.size A n c zs v ss.length (flat enc2 ss) (.slice none 0 0) 0 (flat enc2 []) wv)) (fun _ i _ => n2 - (intOf i).toNat)
    case atStart => exact ⟨0, [], rfl, by omega, Lib.hid ⟨rfl, fun j x h => by simp at h, HS2.out⟩⟩
    case round =>
      obtain ⟨k, ss, rfl, hk, HQ⟩ := hrel
      by_cases hkn : k < n2
      · obtain ⟨hsl, hsg, hS⟩ := HQ.out
        have HSG := Lib.hid hsg
        have HSL := Lib.hid hsl
        have HS := Lib.hid hS
        have hc := hS.2.2.1.cell (HN.out k (by omega)) hnb.out
        have hcs : ss.length + 1 ≤ 1000 := by omega
        clear hsg hS HQ HS2 hsl
        go_wp2_with (first
          | (go_at_call 24; refine (nextN _ _ _ _ _ _ _ HS.out.1 (by omega) (by omega)).mono ?_; rintro e w1 ⟨k0, rfl, hk0, hG, hgr⟩; have HS1 := Lib.hid (HS.out.next hG hgr); clear hG hgr HS; revert HS1; intro HS)
          | (at_builtin; refine wpl_app_share _ rfl _ _ rfl HS.out rfl rfl hcs ?_; intro v' w' hS1; have HS1 := Lib.hid hS1; clear HS hS1; revert HS1; intro HS))
        case roundEnd => exact ⟨⟨k + 1, _, rfl, by omega, Lib.hid ⟨by have := HSL.out; simp; omega, goodS_snoc HSL.out HSG.out (by omega) (by omega), HS.out.snoc1⟩⟩, by simp [intOf]; omega⟩
      · obtain rfl : n2 = k := by omega
        obtain ⟨hsl, hsg, hS⟩ := HQ.out
        obtain ⟨As, cs, rfl, hrs, hbs⟩ := prow_of_own3 hS.2.2.2.1
        have HGS : Hid (goodS ss) := Lib.hid ⟨by omega, hsg⟩
        rw [hsl] at hrs ⊢
        have HRS := Lib.hid hrs
        have HBS : Hid (∀ a, As = some a → W.heap.size < a.block) := Lib.hid (fun a ha => by have := hbs a ha; have := hS.2.2.2.2.2.2.1; omega)
        have HG := Lib.hid hS.1
        have HB := Lib.hid hS.2.1
        have HSL := Lib.hid hsl
        have hgw2 := hS.2.2.2.2.2.2.1
        have hgw3 : W.heap.size < wr.heap.size := Nat.lt_of_lt_of_le hgw2 hS.2.2.1.size
        clear hrs hbs hsg hS HQ HS2 HN hnb hsl hgw2 hgw e1 e2 HHH hkn hk
        go_wp2
        go_loopw [10, 11, 12] (fun vu vm vk wv => ∃ (k : Nat) (mo : Int) (us : List (ByteArray × Int)) (Au : Option Addr) (M cu : Nat), vu = .slice Au M cu ∧ vm = .int .i64 mo ∧ vk = .int .i64 k ∧ k ≤ 60 ∧ Hid ((k : Int) ≤ 20 + pl ∧ Gst wv W.heap.size A n c zs ∧ Below W.heap.size W wv ∧ Prow wv As n2 ss ∧ Prow wv Au M us ∧ (∀ a, Au = some a → W.heap.size < a.block) ∧ W.heap.size < wv.heap.size ∧ M ≤ k ∧ upto (16 * (k : Int)) us ∧ 0 ≤ mo ∧ mo ≤ 16 ∧ BI ss us mo)) (fun _ _ i _ => 60 - (intOf i).toNat)
        case atStart => exact ⟨0, 0, [], none, 0, 0, rfl, rfl, rfl, by omega, Lib.hid ⟨by omega, HG.out, HB.out, HRS.out, Prow.nil _, (fun a h => by cases h), hgw3, Nat.le_refl _, (fun x h => by simp at h), by omega, by omega, BI_start ss⟩⟩
        case round =>
          obtain ⟨k, mo, us, Au, M, cu, rfl, rfl, rfl, hk60, HQ⟩ := hrel
          obtain ⟨hkp, hG, hB, hS, hU, hUb, hgz, hMk, hup, hm0, hm1, hBI⟩ := HQ.out
          have HG := Lib.hid hG
          have HB := Lib.hid hB
          have HRS := Lib.hid hS
          have HRU := Lib.hid hU
          have HUB := Lib.hid hUb
          have HUP := Lib.hid hup
          have HBI := Lib.hid hBI
          have HMB := Lib.hid (And.intro hm0 hm1)
          have HML := Lib.hid hU.1
          clear hG hB hS hU hUb hup hBI HQ hgw3
          by_cases hkt : (k : Int) < 20 + pl
          · have HNM := Lib.hid (names_cells wr)
            have HS3 : Hid (S3 W (wr.alloc (.cells #[.string ⟨#[]⟩, .string ⟨#[97]⟩, .string ⟨#[98]⟩, .string ⟨#[99]⟩] 9)) W.heap.size A n c zs (.slice none 0 0) 0 (flat enc8 []) (wr.alloc (.cells #[.string ⟨#[]⟩, .string ⟨#[97]⟩, .string ⟨#[98]⟩, .string ⟨#[99]⟩] 9))) :=
              Lib.hid ⟨HG.out.later ((Below.refl _ _).alloc (Nat.le_refl _) _), HB.out.alloc HB.out.size _, ⟨rfl, rfl, rfl, Nat.le_refl _, fun _ _ _ => rfl⟩, World.ownsRow_nil _ _ _ _, by simp; omega, Nat.le_refl _, HA.out⟩
            have hnb := Lib.hid (show some wr.heap.size ≠ some W.heap.size from fun e => by simp at e; omega)
            have HGZ := Lib.hid hgz
            clear hgz HG HB
            go_wp2_with (first | (go_at_call 25; refine (HPL.out _).mono ?_; rintro e w' ⟨rfl, rfl⟩) | (go_at_call 13; refine (namesE _).mono ?_; rintro e w1 ⟨rfl, rfl⟩))
            go_loopw [11, 13, 61] (fun vm v i wv => ∃ (q : Nat) (mo' : Int) (ts : List Task), vm = .int .i64 mo' ∧ i = .int .i64 q ∧ q ≤ n2 ∧ Hid (ts.length = q ∧ mo ≤ mo' ∧ mo' ≤ 16 ∧ RT mo' ts ∧ S3 W (wr.alloc (.cells #[.string ⟨#[]⟩, .string ⟨#[97]⟩, .string ⟨#[98]⟩, .string ⟨#[99]⟩] 9)) W.heap.size A n c zs v ts.length (flat enc8 ts) wv)) (fun _ _ i _ => n2 - (intOf i).toNat)
            case atStart => exact ⟨0, mo, [], rfl, rfl, by omega, Lib.hid ⟨rfl, Int.le_refl _, hm1, (fun j t h => by simp at h), HS3.out⟩⟩
            case round =>
              obtain ⟨q, mo', ts, rfl, rfl, hq, HQ⟩ := hrel
              by_cases hqn : q < n2
              · obtain ⟨htl, hmm, hm16, hRT, hS⟩ := HQ.out
                have HRT := Lib.hid hRT
                have HTL := Lib.hid htl
                have HMM := Lib.hid (And.intro hmm hm16)
                have HS := Lib.hid hS
                have hc := hS.2.2.1.cell (HNM.out q (by omega)) hnb.out
                have hcs : ts.length + 1 ≤ 1000 := by omega
                clear htl hmm hm16 hRT hS HQ HS3
                go_wp2_with fail
                refine (nextN _ _ _ _ _ 16 _ HS.out.1 (by omega) (by omega)).mono ?_
                rintro e w5 ⟨k0, rfl, hk0, hG, hgr⟩
                have HS := Lib.hid (HS.out.next hG hgr)
                clear hG hgr hc
                by_cases hmx : mo' < 1 + (k0 : Int)
                · go_wp2_with (at_builtin; refine wpl_app_task _ rfl _ _ rfl HS.out rfl rfl hcs ?_; intro v' w' hS1; have HS1 := Lib.hid hS1; clear HS hS1; revert HS1; intro HS)
                  case roundEnd => exact ⟨⟨q + 1, 1 + (k0 : Int), _, rfl, rfl, by omega, Lib.hid ⟨by have := HTL.out; simp; omega, by have := HMM.out; omega, by omega, RT.snoc (RT.mono HRT.out (by omega)) ⟨rfl, rfl, rfl, by show (1 : Int) ≤ 1 + k0; omega, by show 1 + (k0 : Int) ≤ 16; omega, q, by omega, rfl⟩ rfl (Int.le_refl _) (by rw [HTL.out]), ready_snoc HS.out⟩⟩, by simp [intOf]; omega⟩
                · go_wp2_with (at_builtin; refine wpl_app_task _ rfl _ _ rfl HS.out rfl rfl hcs ?_; intro v' w' hS1; have HS1 := Lib.hid hS1; clear HS hS1; revert HS1; intro HS)
                  case roundEnd => exact ⟨⟨q + 1, mo', _, rfl, rfl, by omega, Lib.hid ⟨by have := HTL.out; simp; omega, HMM.out.1, HMM.out.2, RT.snoc HRT.out ⟨rfl, rfl, rfl, by show (1 : Int) ≤ 1 + k0; omega, by show 1 + (k0 : Int) ≤ 16; omega, q, by omega, rfl⟩ rfl (by show 1 + (k0 : Int) ≤ mo'; omega) (by rw [HTL.out]), ready_snoc HS.out⟩⟩, by simp [intOf]; omega⟩
              · obtain rfl : n2 = q := by omega
                obtain ⟨htl, hmm, hm16, hRT, hS⟩ := HQ.out
                have hgr := hS.2.2.1
                have HRS := Lib.hid ((HRS.out.later ((Below.refl _ _).alloc (Nat.le_refl _) (.cells #[.string ⟨#[]⟩, .string ⟨#[97]⟩, .string ⟨#[98]⟩, .string ⟨#[99]⟩] 9))).kept hgr (fun a ha => by have := HBS.out a ha; omega))
                have HRU := Lib.hid ((HRU.out.later ((Below.refl _ _).alloc (Nat.le_refl _) (.cells #[.string ⟨#[]⟩, .string ⟨#[97]⟩, .string ⟨#[98]⟩, .string ⟨#[99]⟩] 9))).kept hgr (fun a ha => by have := HUB.out a ha; omega))
                have HG := Lib.hid hS.1
                have HB := Lib.hid hS.2.1
                have hgz : W.heap.size < wr.heap.size := Nat.lt_of_lt_of_le hS.2.2.2.2.1 hgr.size
                obtain ⟨A1, c1, rfl, hT⟩ := trow_of_own hS.2.2.2.1
                rw [htl] at hT ⊢
                have HT := Lib.hid hT
                have hne : ts ≠ [] := fun e => by subst e; simp at htl; omega
                have HR : Hid (goodR ss mo' ts) := Lib.hid (hRT.good (by rw [htl, HSL.out]) (by omega) HGS.out)
                have HST : Hid (BI ss (chargeV us (minT ss us ts).owner (minT ss us ts).cost) mo') := Lib.hid (bound_step HGS.out HBI.out hmm hm0 HR.out HUP.out (by omega) (by omega))
                have HMIN := Lib.hid (hRT.all _ (minT_mem ss us hne))
                have HALL := Lib.hid hRT.all
                have HOK : Hid (okV ss us ts 0 16 = true) := Lib.hid (by
                  have := HMIN.out.2.2.2.2.1
                  have h9 : ts.isEmpty = false := by cases ts; exact absurd rfl hne; rfl
                  unfold okV; rw [h9]; simp; omega)
                have HM2 : Hid (0 ≤ mo' ∧ mo' ≤ 16) := Lib.hid ⟨by omega, hm16⟩
                clear hT hRT hS hgr htl hne hmm HQ HS3 HNM hnb HGZ
                go_wp2_with fail
                refine (nextE A1 n2 c1 ts 0 16 Au As M cu n2 cs us ss wr HT.out (by omega) (good_needs HALL.out wr) (by omega) (by omega) HRU.out HRS.out (by omega) (by omega) (upto_small HUP.out (by omega))).mono ?_
                rintro e w5 h5
                have h5x := next_made HALL.out h5
                clear h5
                obtain ⟨hb5, ⟨h3, _⟩ | ⟨_, na, nc, rfl⟩⟩ := h5x
                · rw [HOK.out] at h3; cases h3
                · have HRS := Lib.hid (HRS.out.later hb5)
                  have HRU := Lib.hid (HRU.out.later hb5)
                  have HG := Lib.hid (HG.out.later hb5)
                  have hgz : W.heap.size < w5.heap.size := Nat.lt_of_lt_of_le hgz hb5.size
                  have HB := Lib.hid (bthen HB.out (Nat.le_refl _) hb5)
                  clear hb5 HT HALL HR HOK
                  generalize hm : minT ss us ts = m at HST HMIN ⊢
                  clear hm
                  obtain ⟨i, rl, al, dy, o, co, p, na0, nn0, nc0⟩ := m
                  dsimp only [Task.val] at HST HMIN ⊢
                  have hco1 : 1 ≤ co := HMIN.out.2.2.2.1
                  have hco2 : co ≤ 16 := HMIN.out.2.2.2.2.1
                  have hcd : decide (co < 1) = false := by simp; omega
                  have bA : Below w5.heap.size w5 (w5.alloc (.cells #[.int .i64 i, .string rl, .bool al, .int .i64 dy, .string o, .int .i64 co, .int .i64 p, .slice na 0 nc] 41)) := (Below.refl _ _).alloc (Nat.le_refl _) _
                  have p4 : (w5.alloc (.cells #[.int .i64 i, .string rl, .bool al, .int .i64 dy, .string o, .int .i64 co, .int .i64 p, .slice na 0 nc] 41)).cell? ⟨w5.heap.size, 4, none⟩ = some (.string o) := by simp
                  have p5 : (w5.alloc (.cells #[.int .i64 i, .string rl, .bool al, .int .i64 dy, .string o, .int .i64 co, .int .i64 p, .slice na 0 nc] 41)).cell? ⟨w5.heap.size, 5, none⟩ = some (.int .i64 co) := by simp
                  have HRS := Lib.hid (HRS.out.later bA)
                  have HRU := Lib.hid (HRU.out.later bA)
                  have HG := Lib.hid (HG.out.later bA)
                  have HB := Lib.hid (bthen HB.out (Nat.le_refl _) bA)
                  have hgz : W.heap.size < (w5.alloc (.cells #[.int .i64 i, .string rl, .bool al, .int .i64 dy, .string o, .int .i64 co, .int .i64 p, .slice na 0 nc] 41)).heap.size := Nat.lt_of_lt_of_le hgz bA.size
                  clear bA
                  go_wp2_with fail
                  generalize w5.alloc (.cells #[.int .i64 i, .string rl, .bool al, .int .i64 dy, .string o, .int .i64 co, .int .i64 p, .slice na 0 nc] 41) = w6 at p4 p5 HRS HRU HG HB hgz ⊢
                  generalize w5.heap.size = b5 at p4 p5 ⊢
                  refine (chargeE2 Au M cu us o co w6 HRU.out (by omega)).mono ?_
                  rintro e w7 h7
                  obtain ⟨A7, c7, rfl, hr7, hb7, hblk⟩ := h7
                  have HUP7 : Hid (upto (16 * ((k + 1 : Nat) : Int)) (chargeV us o co)) := Lib.hid (by
                    have := upto_charge (o := o) (c := co) HUP.out (by omega) (by omega) (by omega)
                    intro x hx
                    have := this x hx
                    omega)
                  have HLL := Lib.hid (charge_len1 us o co)
                  have HR7 := Lib.hid hr7
                  generalize chargeV us o co = u7 at HST HUP7 HLL HR7 ⊢
                  have hL7 : u7.length ≤ k + 1 := by have := HLL.out; have := HML.out; omega
                  generalize u7.length = N7 at HR7 hL7 ⊢
                  have HRS := Lib.hid (HRS.out.later hb7)
                  have HG := Lib.hid (HG.out.later hb7)
                  have HB := Lib.hid (bthen HB.out (Nat.le_refl _) hb7)
                  have HBL : Hid (∀ a, A7 = some a → W.heap.size < a.block) := Lib.hid (fun a ha => by have := hblk a ha; omega)
                  have hgz7 : W.heap.size < w7.heap.size := Nat.lt_of_lt_of_le hgz hb7.size
                  clear hr7 hb7 hblk p4 p5 hgz HLL hcd HRU HUB HUP HBI
                  go_wp2
                  go_loopw [107] (fun ix wv => ∃ q : Nat, q ≤ n2 ∧ ix = .int .i64 q ∧ Below w7.heap.size w7 wv) (fun ix _ => n2 - (intOf ix).toNat)
                  case atStart => exact ⟨0, by omega, rfl, .refl _ _⟩
                  case round =>
                    obtain ⟨q, hq, rfl, hb⟩ := hrel
                    by_cases hqn : q < n2
                    · obtain ⟨b, off, rfl, hcell⟩ := HRS.out.2 (by omega)
                      obtain ⟨x, hx⟩ : ∃ x, ss[q]? = some x := ⟨ss[q]'(by have := HSL.out; omega), List.getElem?_eq_getElem _⟩
                      have c1 := cell_later hb (hcell q x hx).1
                      have c2 := cell_later hb (hcell q x hx).2
                      have x1 : (wr.alloc (.cells #[.string x.1, .int .i64 x.2] 51)).cell? ⟨wr.heap.size, 0, none⟩ = some (.string x.1) := by simp
                      have x2 : (wr.alloc (.cells #[.string x.1, .int .i64 x.2] 51)).cell? ⟨wr.heap.size, 1, none⟩ = some (.int .i64 x.2) := by simp
                      have hbx : Below w7.heap.size w7 (wr.alloc (.cells #[.string x.1, .int .i64 x.2] 51)) := hb.alloc hb.size _
                      have HX := Lib.hid hx
                      clear hx hb
                      go_wp2
                      clear c1 c2
                      generalize wr.alloc (.cells #[.string x.1, .int .i64 x.2] 51) = w20 at x1 x2 hbx ⊢
                      generalize wr.heap.size = b20 at x1 x2 ⊢
                      have HX1 := Lib.hid x1
                      have HX2 := Lib.hid x2
                      have HBX := Lib.hid hbx
                      clear x1 x2 hbx
                      go_loopw [113] (fun ix wv => ∃ r : Nat, r ≤ n2 ∧ ix = .int .i64 r ∧ Below w20.heap.size w20 wv) (fun ix _ => n2 - (intOf ix).toNat)
                      case atStart => exact ⟨0, by omega, rfl, .refl _ _⟩
                      case round =>
                        obtain ⟨r, hr, rfl, hb⟩ := hrel
                        by_cases hrn : r < n2
                        · obtain ⟨y, hy⟩ : ∃ y, ss[r]? = some y := ⟨ss[r]'(by have := HSL.out; omega), List.getElem?_eq_getElem _⟩
                          have hbw := bthen HBX.out (Nat.le_refl _) hb
                          have c1 := cell_later hbw (hcell r y hy).1
                          have c2 := cell_later hbw (hcell r y hy).2
                          have y1 : (wr.alloc (.cells #[.string y.1, .int .i64 y.2] 51)).cell? ⟨wr.heap.size, 0, none⟩ = some (.string y.1) := by simp
                          have y2 : (wr.alloc (.cells #[.string y.1, .int .i64 y.2] 51)).cell? ⟨wr.heap.size, 1, none⟩ = some (.int .i64 y.2) := by simp
                          have bY : Below wr.heap.size wr (wr.alloc (.cells #[.string y.1, .int .i64 y.2] 51)) := (Below.refl _ _).alloc (Nat.le_refl _) _
                          have hb2 := bthen hb (Nat.le_refl _) bY
                          have x1 := cell_later hb2 HX1.out
                          have x2 := cell_later hb2 HX2.out
                          have HB2 := Lib.hid hb2
                          have HR8 := Lib.hid (HR7.out.later (bthen HBX.out (Nat.le_refl _) hb2))
                          have HY := Lib.hid hy
                          clear hy hbw hb bY hb2
                          go_wp2
                          clear c1 c2
                          generalize wr.alloc (.cells #[.string y.1, .int .i64 y.2] 51) = wy at x1 x2 y1 y2 HB2 HR8 ⊢
                          generalize wr.heap.size = b22 at y1 y2 ⊢
                          have hx2 := (HGS.out.2 q x HX.out).2
                          have hy2 := (HGS.out.2 r y HY.out).2
                          have hux := upto_used HUP7.out (by omega) x.1
                          have huy := upto_used HUP7.out (by omega) y.1
                          have hle := HST.out q r x y HX.out HY.out
                          have hm2 := HM2.out
                          have m1 : IntKind.i64.wrap (usedV u7 x.1 * y.2) = usedV u7 x.1 * y.2 := mul_small (b := 2000) hux.1 (by omega) (by omega) (by omega) (by omega)
                          have m2 : IntKind.i64.wrap (usedV u7 y.1 * x.2) = usedV u7 y.1 * x.2 := mul_small (b := 2000) huy.1 (by omega) (by omega) (by omega) (by omega)
                          have m3 : IntKind.i64.wrap (mo' * y.2) = mo' * y.2 := mul_small (b := 2000) hm2.1 (by omega) (by omega) (by omega) (by omega)
                          have b1 := mul_bd (b := 2000) huy.1 (by omega) (by omega : 0 ≤ x.2) (by omega : x.2 ≤ 6)
                          have b2 := mul_bd (b := 2000) hm2.1 (by omega) (by omega : 0 ≤ y.2) (by omega : y.2 ≤ 6)
                          have m4 : IntKind.i64.wrap (usedV u7 y.1 * x.2 + mo' * y.2) = usedV u7 y.1 * x.2 + mo' * y.2 := by rw [IntKind.wrap_i64]; omega
                          have HLE : Hid (¬ (usedV u7 y.1 * x.2 + mo' * y.2 < usedV u7 x.1 * y.2)) := Lib.hid (by omega)
                          clear hx2 hy2 hux huy hle b1 b2 hm2
                          go_region_held3 (fun w' => Below wy.heap.size wy w' ∧ w'.cell? ⟨b20, 0, none⟩ = some (.string x.1) ∧ w'.cell? ⟨b20, 1, none⟩ = some (.int .i64 x.2) ∧ w'.cell? ⟨b22, 0, none⟩ = some (.string y.1) ∧ w'.cell? ⟨b22, 1, none⟩ = some (.int .i64 y.2))
                            (first
                              | (go_keep; done)
                              | (go_split_ands; refine ⟨?_, ?_, ?_, ?_, ?_⟩ <;> (first | (go_keep; done) | exact cell_later (by assumption) (by assumption) | exact bthen (by assumption) (Nat.le_refl _) (by assumption) | (repeat (first | exact Below.refl _ _ | assumption | refine Below.drew ?_)))))
                            (first
                              | (go_at_call 16; go_split_ands; refine (usedE _ _ _ u7 _ _ (Prow.later HR8.out (by assumption)) (by omega)).mono ?_; rintro e w' ⟨rfl, hb⟩))
                          go_split_ands
                          have HBE : Hid (Below wy.heap.size wy _) := Lib.hid (by assumption)
                          have hle := HLE.out
                          go_wp2
                          case roundEnd => exact ⟨⟨r + 1, by omega, by go_num, bthen HB2.out (Nat.le_refl _) HBE.out⟩, by simp [intOf]; omega⟩
                        · have HBW := Lib.hid (bthen HBX.out (Nat.le_refl _) hb)
                          clear hb
                          go_wp2
                          case roundEnd => exact ⟨⟨q + 1, by omega, by go_num, HBW.out⟩, by simp [intOf]; omega⟩
                    · have HRS := Lib.hid (HRS.out.later hb)
                      have HR7 := Lib.hid (HR7.out.later hb)
                      have HG := Lib.hid (HG.out.later hb)
                      have HB := Lib.hid (bthen HB.out (Nat.le_refl _) hb)
                      have hgz8 : W.heap.size < wr.heap.size := Nat.lt_of_lt_of_le hgz7 hb.size
                      clear hb
                      go_wp2
                      case roundEnd => exact ⟨⟨k + 1, mo', u7, A7, N7, c7, rfl, rfl, rfl, by omega, Lib.hid ⟨by omega, HG.out, HB.out, HRS.out, HR7.out, HBL.out, hgz8, hL7, HUP7.out, HM2.out.1, HM2.out.2, HST.out⟩⟩, by simp [intOf]; omega⟩
          · have HGZ := Lib.hid hgz
            clear hgz
            go_wp2_with (first | (go_at_call 25; refine (HPL.out _).mono ?_; rintro e w' ⟨rfl, rfl⟩) | (go_at_call 9; refine (knownE _).mono ?_; rintro e w9 ⟨rfl, hb9⟩; have HB9 := Lib.hid (bthen HB.out (Nat.le_refl _) hb9); clear hb9))
            go_ret
            exact ⟨rfl, HB9.out⟩
  · have hn' : decide (200 < (n : Int)) = true := by simp; omega
    have HB := Lib.hid (Below.refl W.heap.size W)
    clear hr hbd hA h1
    go_enter Try.func6, Try.ntmps6
    go_wp2_with (go_at_call 9; refine (knownE _).mono ?_; rintro e w9 ⟨rfl, hb9⟩; have HB9 := Lib.hid (bthen HB.out (Nat.le_refl _) hb9); clear hb9)
    go_ret
    exact ⟨rfl, HB9.out⟩
theorem walk (W : World) (A0 : Option Addr) (n0 c0 : Nat) (l0 : List Int) (h0 : Irow W A0 n0 l0) (a1 : Int) (w1 : (Lit.int .i64 a1).wf = true) :
    Calls Try.prog 6 #[.slice A0 n0 c0, .int .i64 a1] W fun e w' => e = .returned (.bool true) ∧ Below W.heap.size W w' := core A0 n0 c0 l0 a1 W h0 (bounds_i64 w1)


set_option maxRecDepth 100000 in
theorem lifted (os : Os) (started : os.Started) (H : Type) (enc : TypeId × Value → H) :
    ReturnsInHanded {} Try.checked os 6 .any (Rows.fairBoundSpec.pre6 enc Try.prog Try.f6 Rows.fairBoundRow.domain false) (Rows.fairBoundSpec.post enc Try.prog Try.f6 false true false false) := by
  refine returnsInHanded_of_change (C := Try.checked) own started (by kernel_rfl) Try.func6
    (ChangeSpec.witness6 (enc := enc) (C := Try.checked) false ⟨#[], #[.slice none 0 0, .int .i64 0], []⟩ 8 (by kernel_rfl) (by kernel_rfl) (by kernel_rfl) (by kernel_rfl)) ?_
  intro W base args ds gs before hval0 hW hcnd _
  have hval : ∀ (j : Nat) t v, Try.f6.params[j]? = some t → args[j]? = some v → Value.okWide Try.prog W .any base t v := hval0
  have hW' := hW
  obtain ⟨p, q, hA0, hV, rfl, hfz, hnd⟩ := hW
  have hA : DataW.TrodAll enc Try.prog W 0 (fun _ => true) true Try.f6.params.toList args.toList ds p := hA0
  rw [Try.params6] at hA hval
  obtain ⟨v0, vs0, d0, ds0, p0, q0, hargs, rfl, rfl, h0, r0⟩ := trodAll_cons hA
  obtain ⟨v1, vs1, d1, ds1, p1, q1, rfl, rfl, rfl, h1, r1⟩ := trodAll_cons r0
  obtain ⟨rfl, rfl, rfl⟩ := trodAll_nil r1
  obtain rfl : args = #[v0, v1] := by cases args; simp_all
  obtain ⟨rfl, rfl⟩ := trodVars_none hV
  obtain ⟨A0, n0, c0, rfl⟩ := okWide_slice Try.underlying24 (hval 0 24 v0 rfl rfl)
  obtain ⟨l0, hrow0⟩ := irow_of_trod h0
  obtain ⟨a1, rfl, rfl, rfl, w1⟩ := open_int Try.underlying3 (hval 1 3 v1 rfl rfl) h1
  clear hA0 hval0
  simp only [List.append_nil] at hW'
  refine (walk W A0 n0 c0 l0 hrow0 a1 w1).mono fun e W' ⟨he, hb⟩ => ?_
  subst he
  exact ⟨_, rfl, law_post laidOut (by rw [Try.params6]; simp only [List.mem_cons, List.not_mem_nil, or_false, forall_eq_or_imp, forall_eq]; exact ⟨⟨by kernel_rfl, by decide +kernel⟩, ⟨by kernel_rfl, by decide +kernel⟩⟩) rfl rfl Try.underlying4 hW' rfl rfl rfl hb⟩

theorem over : Rows.fairBoundRow.holds Try.pinned (OpenSpec.ofChange Rows.fairBoundSpec) :=
  OpenClaim.holds_of_wide 6 Try.f6 rfl rfl rfl rfl rfl rfl rfl ⟨rfl, rfl, rfl, rfl, rfl⟩ rfl rfl rfl rfl rfl (by kernel_rfl) Try.func6 (by kernel_rfl)
    (of_decide_eq_true (by kernel_rfl)) (by unfold Func.isWrapper; first | (rw [if_pos (by decide +kernel)]; kernel_rfl) | (rw [if_neg (by decide +kernel)]; exact ⟨rfl, rfl⟩))
    (fun os started H enc _ => lifted os started H enc)

theorem proved : Rows.FairBoundSaid := over
#print axioms proved
end Go.Proofs.Ytknpcphaieoocaa.lawFairBound
