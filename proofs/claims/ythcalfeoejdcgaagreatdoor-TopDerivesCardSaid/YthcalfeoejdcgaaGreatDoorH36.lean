import Derived.Test.YthcalfeoejdcgaaGreatDoorH34
import Derived.KernelRfl
import Derived.Test.YthcalfeoejdcgaaGreatDoorH35
namespace Go.Proofs.YthcalfeoejdcgaaGreatDoor
set_option linter.unusedSimpArgs false
set_option linter.unusedVariables false
section
open Go.RowKit Go.BigFrame
def derV (cs : List Col) (p : List Nod) (t : Tab) : Tab := t.map fun x => (x.1 ++ [evaV cs x.1 p], x.2)
structure TwoA where
  op : Nat
  a : Option Nat
  l : List Value
  b : Nat
  d2 : Nat
def fTwx (s : ASt) (op : Nat) (a : Value) (b : Nat) : List TwoA → Option Nat
  | [] => none
  | g :: l => cond (Nat.beq g.op op && (Nat.beq g.b b && (Nat.ble 500 g.d2 && (Nat.ble g.d2 509 && (match g.a, a with
      | some n, .chan (some k) => Nat.beq n (k % 1024)
      | none, v => isFlat 6 s v g.l
      | _, _ => false))))) (some g.d2) (fTwx s op a b l)
def rdItm (s : ASt) (v : Value) : Option Nat := match v with
  | .slice (some ⟨i, o, none⟩) 1 _ => match aload s i o 5 with
    | some [.string _, .int .i64 _, .string _, .int .i64 _, .chan (some k)] => some k
    | _ => none
  | _ => none
def sp131 (G : List WhrA) (args : List Value) (s : ASt) : Option (Value × ASt) := match args with
  | [.agg ⟨[.int .i64 _, .string _, .slice none 0 0, .slice none 0 0, items, .slice none 0 0]⟩, .agg ⟨[.string _, co, .slice none 0 0, .chan (some k)]⟩, .chan (some z)] => match rdItm s items with
    | some n => match fWhr s co (n % 1024) (k % 1024) G with
      | some d2 => cond (zon z && glb s) (some (.tuple ⟨[chD s.next d2, .int .i64 0]⟩, s.opq)) none
      | none => none
    | none => none
  | _ => none
def sp16 (G : List TwoA) (args : List Value) (s : ASt) : Option (Value × ASt) := match args with
  | [.chan (some o), a, .chan (some b)] => match fTwx s (o % 1024) a (b % 1024) G with
    | some d2 => some (chD s.next d2, s.opq)
    | none => none
  | _ => none
theorem idx_app {cs ex : List Col} {nm : ByteArray} (h : 0 ≤ idxC cs nm) : idxC (cs ++ ex) nm = idxC cs nm := by
  unfold idxC idxV at h ⊢
  cases hf : cs.findIdx? (nmIs nm) with
  | none => rw [hf] at h; simp at h
  | some j =>
    rw [List.findIdx?_append, hf]; rfl
theorem col_app {cs ex : List Col} {nm : ByteArray} (h : 0 ≤ idxC cs nm) : colAt (cs ++ ex) nm = colAt cs nm := by
  unfold colAt
  rw [idx_app h]
  obtain ⟨j, c, e, hc, _⟩ := zc3 (p := nmIs nm) (l := cs) h
  have e : idxC cs nm = j := e
  rw [e, Int.toNat_natCast, List.getD_eq_getElem?_getD, List.getD_eq_getElem?_getD, List.getElem?_append_left (List.getElem?_eq_some_iff.1 hc).1]
section
variable {cs cs' : List Col} {r r' : List Val}
theorem nodT_cols {n : Nod} {l : List Knd} (h : n.op = 1 → (idxC cs n.nm < 0 ↔ idxC cs' n.nm < 0)) (h2 : n.op = 1 → colAt cs' n.nm = colAt cs n.nm) : nodT cs' n l = nodT cs n l := by
  unfold nodT
  by_cases h1 : n.op = 1
  · rw [if_pos h1, if_pos h1, h2 h1]
    by_cases h3 : idxC cs n.nm < 0
    · rw [if_pos h3, if_pos ((h h1).1 h3)]
    · rw [if_neg h3, if_neg fun h4 => h3 ((h h1).2 h4)]
  · rw [if_neg h1, if_neg h1]
end
section
variable {cs cs' : List Col} {r r' : List Val}
theorem runT_cols : ∀ {p : List Nod} (_ : ∀ n ∈ p, n.op = 1 → (idxC cs n.nm < 0 ↔ idxC cs' n.nm < 0) ∧ colAt cs' n.nm = colAt cs n.nm) (st : List Knd), runT cs' p st = runT cs p st
  | [], _, st => rfl
  | n :: p, h, st => by
    have h0 := h n (List.mem_cons_self ..)
    have e : stpT cs' st n = stpT cs st n := by
      unfold stpT
      rw [nodT_cols (fun h1 => (h0 h1).1) fun h1 => (h0 h1).2]
    rw [runT, runT, e]
    cases stpT cs st n with
    | none => rfl
    | some s => exact runT_cols (fun x hx => h x (List.mem_cons_of_mem _ hx)) s
end
theorem blk_app {cs ex : List Col} {p : List Nod} {t : Knd} (hn : ∀ n ∈ p, okN cs n) (h : blkT cs p t) : blkT (cs ++ ex) p t := fun st => by
  rw [runT_cols (cs := cs) (fun n hm h1 => ?_)]
  · exact h st
  · have := (hn n hm).col h1
    refine ⟨?_, col_app this⟩
    rw [idx_app this]
section
variable {cs : List Col} {r : List Val}
theorem stp_ok (hr : okRow cs r) {n : Nod} {ts ts' : List Knd} {vs : List Val} (hn : okN cs n) (hs : okSt ts vs) (h : stpT cs ts n = some ts') : okSt ts' (stpV cs r vs n) := by
  unfold stpT at h
  split at h
  · cases h
  · rename_i hlt
    obtain ⟨k, hk, rfl⟩ := Option.map_eq_some_iff.1 h
    have hlen := hs.len
    unfold stpV
    rw [← hlen]
    exact (hs.take _).snoc (okK_node hr hn (by rw [List.length_drop]; omega) (hs.drop _) hk)
end
section
variable {cs : List Col} {r : List Val}
theorem run_ok (hr : okRow cs r) : ∀ {p : List Nod} {ts ts' : List Knd} {vs : List Val} (_ : ∀ n ∈ p, okN cs n) (_ : okSt ts vs) (_ : runT cs p ts = some ts'), okSt ts' (runV cs r p vs)
  | [], ts, ts', vs, _, hs, h => by cases h; exact hs
  | n :: p, ts, ts', vs, hn, hs, h => by
    rw [runT] at h
    cases hq : stpT cs ts n with
    | none => rw [hq] at h; cases h
    | some t1 =>
      rw [hq] at h
      exact run_ok hr (p := p) (fun x hx => hn x (List.mem_cons_of_mem _ hx)) (stp_ok hr (hn n (List.mem_cons_self ..)) hs hq) h
end
section
variable {cs cs' : List Col} {r r' : List Val}
theorem eva_ok (hr : okRow cs r) {p : List Nod} {t : Knd} (hn : ∀ n ∈ p, okN cs n) (h : blkT cs p t) : okK t (evaV cs r p) := by
  have := run_ok hr (vs := []) hn (show okSt [] [] from trivial) (h [])
  rw [runV_blk h] at this
  exact this.1
end
section
variable {cs : List Col} {p : List Nod} {t : Tab}
theorem der_row {k : Knd} {c : Col} (hc : c.k = k.k ∧ c.nl = k.nl) {r : List Val} (hr : okRow cs r) (hn : ∀ x ∈ p, okN cs x) (hb : blkT cs p k) : okRow (cs ++ [c]) (r ++ [evaV cs r p]) := by
  have he := eva_ok hr hn hb
  refine ⟨by rw [List.length_append, List.length_append, hr.1]; rfl, fun j v co hv hco => ?_⟩
  rcases Nat.lt_or_ge j r.length with hj | hj
  · rw [List.getElem?_append_left hj] at hv
    rw [List.getElem?_append_left (by rw [← hr.1]; exact hj)] at hco
    exact hr.2 j v co hv hco
  · rw [List.getElem?_append_right hj] at hv
    rw [List.getElem?_append_right (by rw [← hr.1]; exact hj)] at hco
    have hj0 : j - r.length = 0 := by
      have := (List.getElem?_eq_some_iff.1 hv).1
      simp at this; omega
    have hj1 : j - cs.length = 0 := by rw [← hr.1]; exact hj0
    rw [hj0] at hv
    rw [hj1] at hco
    cases hv
    cases hco
    rw [hc.1, hc.2]
    exact he
end
theorem cmpR_app : ∀ {a b : List Val} (_ : a.length = b.length) (_ : a ≠ b) (x y : List Val), cmpR (a ++ x) (b ++ y) = cmpR a b
  | [], [], _, h, _, _ => absurd rfl h
  | [], _ :: _, h, _, _, _ => by simp at h
  | _ :: _, [], h, _, _, _ => by simp at h
  | u :: a, v :: b, hl, hne, x, y => by
    simp only [List.cons_append]
    unfold cmpR
    by_cases e : cmpV u v = 0
    · rw [if_pos e, if_pos e]
      refine cmpR_app (by simpa using hl) (fun h => hne ?_) x y
      rw [h, (zct _ _).1 e]
    · rw [if_neg e, if_neg e]
section
variable {cs : List Col} {p : List Nod} {t : Tab}
theorem der_bag {m : Nat} (ht : Bag t) (hl : ∀ x ∈ t, x.1.length = m) : Bag (derV cs p t) := by
  refine ⟨znz.2 ?_, fun x hx => ?_⟩
  · unfold derV
    rw [List.pairwise_map]
    refine (znz.1 ht.1).imp_of_mem fun {x y} hx hy hlt => ?_
    show cmpR (x.1 ++ _) (y.1 ++ _) < 0
    rw [cmpR_app (by rw [hl x hx, hl y hy]) fun e => by rw [e, zf0] at hlt; omega]
    exact hlt
  · obtain ⟨y, hy, rfl⟩ := List.mem_map.1 hx
    exact ht.2 y hy
end
section
variable {cs : List Col} {p : List Nod} {t : Tab}
theorem der_tab {n : Nat} {k : Knd} (h : okTab t) (hl : ∀ x ∈ t, x.1.length = n) (hm : n + 1 ≤ 12) (hr : ∀ x ∈ t, okRow cs x.1) (hn : ∀ x ∈ p, okN cs x) (hb : blkT cs p k) : okTab (derV cs p t) := by
  refine ⟨⟨by unfold derV; rw [List.length_map]; exact h.1.1, der_bag h.1.2.1 hl, fun y hy => ?_⟩, fun y hy => ?_⟩
  · obtain ⟨x, hx, rfl⟩ := List.mem_map.1 hy
    obtain ⟨_, k2, k3, k4⟩ := h.1.2.2 x hx
    refine ⟨?_, k2, k3, fun v hv => ?_⟩
    · show (x.1 ++ _).length ≤ 12
      rw [List.length_append, hl x hx]; exact hm
    · rcases List.mem_append.1 (show v ∈ x.1 ++ _ from hv) with hv | hv
      · exact k4 v hv
      · rw [List.mem_singleton] at hv
        subst hv
        exact (eva_ok (hr x hx) hn hb).1
  · obtain ⟨x, hx, rfl⟩ := List.mem_map.1 hy
    exact h.2 x hx
end
section
variable {cs cs' : List Col} {r r' : List Val}
theorem runV_cols : ∀ {p : List Nod} (_ : ∀ n ∈ p, n.op = 1 → valAt cs' r' n.nm = valAt cs r n.nm) (st : List Val), runV cs' r' p st = runV cs r p st
  | [], _, st => rfl
  | n :: p, h, st => by
    have e : stpV cs' r' st n = stpV cs r st n := by
      unfold stpV nodV
      by_cases h1 : n.op = 1
      · rw [if_pos h1, if_pos h1, h n (List.mem_cons_self ..) h1]
      · rw [if_neg h1, if_neg h1]
    show runV cs' r' p (stpV cs' r' st n) = runV cs r p (stpV cs r st n)
    rw [e]
    exact runV_cols (fun x hx => h x (List.mem_cons_of_mem _ hx)) _
end
theorem derive_eva {cs cs' : List Col} {r r' : List Val} {x y : List Nod} {c n : Nod} {t : Knd} (hx : blkT cs x t) (hy : ∀ m ∈ y, m.op = 1 → valAt cs' r' m.nm = valAt cs r m.nm) (hc1 : c.op = 1) (hc : valAt cs' r' c.nm = evaV cs r x) (hn : n.op ≠ 1) : evaV cs' r' ([c] ++ (y ++ [n])) = evaV cs r (x ++ (y ++ [n])) := by
  have e1 : runV cs' r' [c] [] = [evaV cs r x] := by
    show stpV cs' r' [] c = _
    unfold stpV nodV
    rw [if_pos hc1, hc]; simp
  have e2 : runV cs r x [] = [evaV cs r x] := runV_blk hx []
  have e3 : ∀ st, runV cs' r' [n] st = runV cs r [n] st := fun st => runV_cols (fun m hm h => by
    rw [List.mem_singleton] at hm
    subst hm
    exact absurd h hn) st
  unfold evaV
  rw [zk6, zk6 cs' r' y, e1, e3, zk6, zk6 cs r y, e2, runV_cols hy]
section
variable {cs cs' : List Col} {p : List Nod}
theorem derive_where (q : List Nod) (r : List Nod) (t : Tab) (h : ∀ x ∈ t, evaV cs' (x.1 ++ [evaV cs x.1 p]) r = evaV cs x.1 q) : whrV cs' r (derV cs p t) = derV cs p (whrV cs q t) := by
  unfold whrV derV
  rw [List.filter_map]
  congr 1
  refine List.filter_congr fun x hx => ?_
  show (truV (evaV cs' (x.1 ++ [evaV cs x.1 p]) r) == 1) = _
  rw [h x hx]
end
section
variable {c : Nat} {t0 t1 t2 : Tab}
theorem TJ.l0 (h : TJ t0 t1 t2) : ∀ x ∈ t0, x.1.length = 4 := fun x hx => (h.r0 x hx).1
end
theorem val_app {cs ex : List Col} {r rx : List Val} {nm : ByteArray} (h : 0 ≤ idxC cs nm) (hl : r.length = cs.length) : valAt (cs ++ ex) (r ++ rx) nm = valAt cs r nm := by
  unfold valAt
  rw [idx_app h]
  obtain ⟨j, c, e, hc, _⟩ := zc3 (p := nmIs nm) (l := cs) h
  have e : idxC cs nm = j := e
  have hj : j < r.length := by have := (List.getElem?_eq_some_iff.1 hc).1; rw [hl]; exact this
  rw [e, Int.toNat_natCast, List.getD_eq_getElem?_getD, List.getD_eq_getElem?_getD, List.getElem?_append_left hj]
theorem okN.app {cs ex : List Col} {n : Nod} (h : okN cs n) : okN (cs ++ ex) n := ⟨h.ar, h.lo, h.hi, h.cst, h.zero, fun h1 => by rw [idx_app (h.col h1)]; exact h.col h1, h.day, h.bare⟩
end
section
open Go.RowKit
def newD (nl : Bool) : List Col := oC ++ [⟨sNew, 2, nl⟩]
def colN : Nod := ⟨1, 0, 0, ⟨#[]⟩, sNew, 0⟩
theorem okCols_newD (nl : Bool) : okCols (newD nl) := by cases nl <;> exact zel (by decide) (by decide) (by kernel_rfl) (by kernel_rfl)
theorem idx_newD (nl : Bool) : idxC (newD nl) sNew = 4 := by cases nl <;> kernel_rfl
theorem known_oC : ∀ c ∈ oC, c.nm ∈ knownN := fun c hc => by
  have := List.all_eq_true.1 (show (oC.all fun co => knownN.any fun y => eqF (.string y) (.string co.nm)) = true by kernel_rfl) c hc
  exact zeh this
theorem known_new : sNew ∈ knownN := zeh (by kernel_rfl)
def ndD (op : Int) (x y : List Nod) : Nat → List Nod := fun k => match k with
  | 500 => x
  | 501 => y
  | 502 => [colN] ++ (y ++ [opN op])
  | 503 => x ++ (y ++ [opN op])
  | _ => []
def tbD (op : Int) (x y : List Nod) (nl : Bool) (t0 t1 t2 : Tab) : Nat → Tab := fun k => match k with
  | 0 => t0
  | 1 => t1
  | 2 => t2
  | 3 => derV oC x t0
  | 4 => whrV (newD nl) (ndD op x y 502) (derV oC x t0)
  | 5 => whrV oC (ndD op x y 503) t0
  | 6 => derV oC x (whrV oC (ndD op x y 503) t0)
  | _ => []
section
variable {op : Int} {x y : List Nod} {tx ty : Knd} {t0 t1 t2 : Tab}
theorem okX_x (hx : okE oC 2 13 x) (hb : blkT oC x tx) : okX oC x tx := ⟨by have := hx.1; omega, hx.2.1, hb, zc7, known_oC⟩
theorem okX_503 (hx : okE oC 2 13 x) (hb : blkT oC x tx) (hk : tx.k = 2) (hy : okE oC 2 13 y) (hop : 10 ≤ op ∧ op ≤ 13) : ∃ t, t.k = 1 ∧ okX oC (x ++ (y ++ [opN op])) t := by
  obtain ⟨ly, ny, u, hu, bu⟩ := hy
  have har : arN (opN op).op = 2 := by
    have : op = 10 ∨ op = 11 ∨ op = 12 ∨ op = 13 := by omega
    rcases this with rfl | rfl | rfl | rfl <;> decide
  have hf : fitsK u 2 = true := by unfold fitsK; rcases hu with h | h <;> rw [h] <;> rfl
  refine ⟨⟨1, [tx, u].any Knd.nl⟩, rfl, ?_, ?_, ?_, zc7, known_oC⟩
  · have := hx.1; simp; omega
  · intro n hn
    rcases List.mem_append.1 hn with h | h
    · exact hx.2.1 n h
    rcases List.mem_append.1 h with h | h
    · exact ny n h
    · rw [List.mem_singleton] at h; subst h; exact zcz (by omega) (by omega)
  · refine blk2 hb bu har ?_
    unfold nodT
    have h1 : ¬ (opN op).op = 1 := by show ¬ op = 1; omega
    rw [if_neg h1]
    have e : typN (opN op) [tx, u] = (⟨1, [tx, u].any Knd.nl⟩, (comK tx u).2) := by
      have : op = 10 ∨ op = 11 ∨ op = 12 ∨ op = 13 := by omega
      rcases this with rfl | rfl | rfl | rfl <;> rfl
    rw [e]
    have h2 : (comK tx u).2 = true := by unfold comK; rw [if_neg (by omega)]; show fitsK u tx.k = true; rw [hk]; exact hf
    rw [if_pos h2]
theorem okX_502 (nl : Bool) (hy : okE oC 2 13 y) (hop : 10 ≤ op ∧ op ≤ 13) : ∃ t, t.k = 1 ∧ okX (newD nl) ([colN] ++ (y ++ [opN op])) t := by
  obtain ⟨ly, ny, u, hu, bu⟩ := hy
  have har : arN (opN op).op = 2 := by
    have : op = 10 ∨ op = 11 ∨ op = 12 ∨ op = 13 := by omega
    rcases this with rfl | rfl | rfl | rfl <;> decide
  have hf : fitsK u 2 = true := by unfold fitsK; rcases hu with h | h <;> rw [h] <;> rfl
  have hi := idx_newD nl
  have hat : colAt (newD nl) sNew = ⟨sNew, 2, nl⟩ := by
    unfold colAt
    rw [hi]; rfl
  have hcn : nodT (newD nl) colN [] = some ⟨2, nl⟩ := by
    show (if idxC (newD nl) sNew < 0 then none else some (⟨(colAt (newD nl) sNew).k, (colAt (newD nl) sNew).nl⟩ : Knd)) = _
    rw [if_neg (by rw [hi]; omega), hat]
  refine ⟨⟨1, [(⟨2, nl⟩ : Knd), u].any Knd.nl⟩, rfl, ?_, ?_, ?_, okCols_newD nl, fun c hc => ?_⟩
  · simp; omega
  · intro n hn
    rcases List.mem_append.1 hn with h | h
    · rw [List.mem_singleton] at h
      subst h
      exact ⟨rfl, by show (0 : Int) ≤ 1; omega, by show (1 : Int) ≤ 20; omega, fun h => by have h : (1 : Int) = 0 := h; omega, fun _ => ⟨rfl, rfl, rfl⟩, fun _ => by show 0 ≤ idxC (newD nl) sNew; rw [hi]; omega, fun h => by have h : (1 : Int) = 20 := h; omega, fun _ h => absurd rfl h⟩
    rcases List.mem_append.1 h with h | h
    · exact (ny n h).app
    · rw [List.mem_singleton] at h; subst h; exact zcz (by omega) (by omega)
  · refine blk2 (blk0 rfl hcn) (blk_app ny bu) har ?_
    unfold nodT
    have h1 : ¬ (opN op).op = 1 := by show ¬ op = 1; omega
    rw [if_neg h1]
    have e : typN (opN op) [(⟨2, nl⟩ : Knd), u] = (⟨1, [(⟨2, nl⟩ : Knd), u].any Knd.nl⟩, (comK ⟨2, nl⟩ u).2) := by
      have : op = 10 ∨ op = 11 ∨ op = 12 ∨ op = 13 := by omega
      rcases this with rfl | rfl | rfl | rfl <;> rfl
    rw [e]
    have h2 : (comK (⟨2, nl⟩ : Knd) u).2 = true := by unfold comK; rw [if_neg (by simp)]; exact hf
    rw [if_pos h2]
  · rcases List.mem_append.1 hc with h | h
    · exact known_oC c h
    · rw [List.mem_singleton] at h; subst h; exact known_new
theorem eva_502 (nl : Bool) (hb : blkT oC x tx) (hy : okE oC 2 13 y) (hop : 10 ≤ op ∧ op ≤ 13) {r : List Val} (hr : r.length = 4) : evaV (newD nl) (r ++ [evaV oC r x]) ([colN] ++ (y ++ [opN op])) = evaV oC r (x ++ (y ++ [opN op])) := by
  refine derive_eva hb (fun m hm h1 => val_app ((hy.2.1 m hm).col h1) hr) rfl ?_ (by show ¬ op = 1; omega)
  show valAt (newD nl) (r ++ [evaV oC r x]) sNew = _
  unfold valAt
  rw [idx_newD nl, List.getD_eq_getElem?_getD, List.getElem?_append_right (by rw [hr]; decide), hr]
  rfl
theorem TJ.der (h : TJ t0 t1 t2) (hx : okX oC x tx) {t : Tab} (ht : okTab t) (hl : ∀ z ∈ t, okRow oC z.1) : okTab (derV oC x t) := der_tab ht (fun z hz => (hl z hz).1) (by decide) hl hx.nod hx.blk
theorem TJ.derOk (h : TJ t0 t1 t2) (hx : okX oC x tx) (nl : Bool) (k : Nat) : okTab (tbD op x y nl t0 t1 t2 k) := by
  have nil : okTab [] := ⟨⟨by simp, ⟨trivial, fun x h => by cases h⟩, fun x h => by cases h⟩, fun x h => by cases h⟩
  match k with
  | 0 => exact h.o0
  | 1 => exact h.o1
  | 2 => exact h.o2
  | 3 => exact h.der hx h.o0 h.r0
  | 4 => exact (zqs (h.der hx h.o0 h.r0)).1
  | 5 => exact (zqs h.o0).1
  | 6 => exact h.der hx (zqs h.o0).1 fun z hz => h.r0 z (List.mem_filter.1 hz).1
  | n + 7 => exact nil
theorem TJ.derRow {nl : Bool} (h : TJ t0 t1 t2) (hx : okX oC x ⟨2, nl⟩) : ∀ z ∈ derV oC x t0, okRow (newD nl) z.1 := fun z hz => by
  obtain ⟨w, hw, rfl⟩ := List.mem_map.1 hz
  exact der_row ⟨rfl, rfl⟩ (h.r0 w hw) hx.nod hx.blk
theorem TJ.derEq (h : TJ t0 t1 t2) (nl : Bool) (hb : blkT oC x tx) (hy : okE oC 2 13 y) (hop : 10 ≤ op ∧ op ≤ 13) : tbD op x y nl t0 t1 t2 4 = tbD op x y nl t0 t1 t2 6 :=
  derive_where _ _ _ fun z hz => eva_502 nl hb hy hop (h.l0 z hz)
end
end
section
open Go.RowKit Go.RowKit
def whD (nl : Bool) : List WhrA := [⟨502, 3, newD nl, 4⟩, ⟨503, 0, oC, 5⟩]
def deD : List WhrA := [⟨500, 0, oC, 3⟩, ⟨500, 5, oC, 6⟩]
def colL : List Value := [.int .i64 1, .int .i64 0, .int .i64 0, .string ⟨#[]⟩, .string ⟨#[110, 101, 119]⟩, .int .i64 0]
def twD : List TwoA := [⟨603, none, colL, 501, 502⟩, ⟨603, some 500, [], 501, 503⟩]
def dnD (nl : Bool) : List DerA := [⟨500, oC, ⟨2, nl⟩⟩]
def wcD (nl : Bool) : List (Nat × List Col) := [(502, newD nl), (503, oC)]
def clD (nl : Bool) : List (Nat × List Col) := [(0, oC), (1, cC), (2, oC), (3, newD nl), (5, oC)]
def csD (nl : Bool) : List (List Col) := [oC, cC, newD nl]
def hintD (op : BinOp) (x y : Value) : Option Value := match op, x, y with
  | .shr, .chan (some 600), .int .u64 8 => some (.chan (some 601))
  | .and, .chan (some 601), .int .i64 3 => some (.chan (some 602))
  | .add, .int .i64 10, .chan (some 602) => some (.chan (some 603))
  | _, _, _ => none
noncomputable def T3 (nl : Bool) : Tbl := { xT with hint := hintD, sp := fun f => cond (Nat.beq f 62) (some (sp62g (clD nl))) (cond (Nat.beq f 129) (some sp129) (cond (Nat.beq f 17) (some (sp17 fun a b => Nat.beq a 4 && Nat.beq b 6)) (cond (Nat.beq f 89) (some (sp89 (csD nl))) (cond (Nat.beq f 123) (some sp123) (cond (Nat.beq f 234) (some sp234) (cond (Nat.beq f 12) (some sp12) (cond (Nat.beq f 90) (some sp90) (cond (Nat.beq f 175) (some (sp175 [500, 502, 503])) (cond (Nat.beq f 193) (some (sp193 (wcD nl))) (cond (Nat.beq f 196) (some (sp196 (dnD nl))) (cond (Nat.beq f 130) (some (sp130 (whD nl))) (cond (Nat.beq f 131) (some (sp131 deD)) (cond (Nat.beq f 16) (some (sp16 twD)) (cond (Nat.beq f 13) (some sp13) none)))))))))))))) }
noncomputable def R3 (nl : Bool) : Rn := rn (T3 nl) (adraw (T3 nl)) 1000
def rest6 (c : Option Code) : Code := match c with
  | some (.seq _ (.seq _ (.seq _ (.seq _ (.seq _ (.seq _ r)))))) => r
  | _ => .skip
def dL0 : Lit := ⟨102, 74, [(2, .chan (some 600)), (6, .bool false), (7, .slice (some ⟨71,0,none⟩) 3 3), (8, .chan (some (72 * 1024 + 500))), (9, .chan (some (73 * 1024 + 501)))], []⟩
def sDr : ASt := ⟨sF.heap, 74, sF.tc⟩
end
end Go.Proofs.YthcalfeoejdcgaaGreatDoor
