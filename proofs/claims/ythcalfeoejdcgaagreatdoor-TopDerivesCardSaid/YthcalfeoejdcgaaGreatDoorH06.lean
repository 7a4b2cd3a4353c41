import Derived.Lib.Bytealg
import Derived.Lib.Small
import Derived.Deep.QuietTactic
import Derived.Laws.OwnMore
import Derived.Laws.MakeOwn
import Derived.Test.YthcalfeoejdcgaaGreatDoorH05
namespace Go.Proofs.YthcalfeoejdcgaaGreatDoor
set_option linter.unusedSimpArgs false
set_option linter.unusedVariables false
section
open Go.RowKit
structure Val where
 k : Int
 m : Int
 s : ByteArray
def encVal (x : Val) : List Value := [.int .i64 x.k, .int .i64 x.m, .string x.s]
theorem za4 (x : Val) : (encVal x).length = 3 := rfl
theorem one1_Val (x : Val) : ∀ u ∈ encVal x, u.oneCell' = true := fun u hx => by
 simp [encVal] at hx
 rcases hx with rfl | rfl | rfl <;> rfl
def rVal (w : World) (A : Option Addr) (n : Nat) (l : List Val) : Prop := Fl w 3 A n (flat encVal l)
theorem rVal.len {w : World} {A : Option Addr} {n : Nat} {l : List Val} (h : rVal w A n l) : l.length = n := h.count za4 qF
theorem rVal.opn {w : World} {A : Option Addr} {n : Nat} {l : List Val} (h : rVal w A n l) (hn : 0 < n) : ∃ b off, A = some ⟨b, off, none⟩ /\ ∀ (j : Nat) (x : Val), l[j]? = some x -> w.cell? ⟨b, off + j * 3, none⟩ = some (.int .i64 x.k) /\ w.cell? ⟨b, off + j * 3 + 1, none⟩ = some (.int .i64 x.m) /\ w.cell? ⟨b, off + j * 3 + 2, none⟩ = some (.string x.s) := by
 obtain ⟨b, off, e, hc⟩ := h.cells za4 hn
 refine ⟨b, off, e, fun j x hx => ?_⟩
 have hc := fun k u hk hu => hc j x k u hx hk hu
 exact ⟨hc 0 _ qF rfl, hc 1 _ qF rfl, hc 2 _ qF rfl⟩
theorem rVal.later {w w' : World} {A : Option Addr} {n : Nat} {l : List Val} (h : rVal w A n l) (hb : Below w.heap.size w w') : rVal w' A n l := Fl.later h hb
theorem zbl (w : World) (t : TypeId) (k : Int) (m : Int) (s : ByteArray) : ∀ j u, (encVal ⟨k, m, s⟩)[j]? = some u -> (w.alloc (.cells #[.int .i64 k, .int .i64 m, .string s] t)).cell? ((⟨w.heap.size, 0, none⟩ : Addr).add j) = some u := by
 intro j u h
 have hj : j < 3 := by have := (qO h).1; simpa [encVal] using this
 rw [zaw]
 match j, hj with
 | 0, _ => simp [encVal] at h; subst h; simp
 | 1, _ => simp [encVal] at h; subst h; simp
 | 2, _ => simp [encVal] at h; subst h; simp
structure Ent where
 rA : Option Addr
 rN : Nat
 rC : Nat
 c : Int
def encEnt (x : Ent) : List Value := [.slice x.rA x.rN x.rC, .int .i64 x.c]
theorem za5 (x : Ent) : (encEnt x).length = 2 := rfl
theorem zfn (x : Ent) : ∀ u ∈ encEnt x, u.oneCell' = true := fun u hx => by
 simp [encEnt] at hx
 rcases hx with rfl | rfl <;> rfl
def rEnt (w : World) (A : Option Addr) (n : Nat) (l : List Ent) : Prop := Fl w 2 A n (flat encEnt l)
theorem rEnt.len {w : World} {A : Option Addr} {n : Nat} {l : List Ent} (h : rEnt w A n l) : l.length = n := h.count za5 qF
theorem rEnt.opn {w : World} {A : Option Addr} {n : Nat} {l : List Ent} (h : rEnt w A n l) (hn : 0 < n) : ∃ b off, A = some ⟨b, off, none⟩ /\ ∀ (j : Nat) (x : Ent), l[j]? = some x -> w.cell? ⟨b, off + j * 2, none⟩ = some (.slice x.rA x.rN x.rC) /\ w.cell? ⟨b, off + j * 2 + 1, none⟩ = some (.int .i64 x.c) := by
 obtain ⟨b, off, e, hc⟩ := h.cells za5 hn
 refine ⟨b, off, e, fun j x hx => ?_⟩
 have hc := fun k u hk hu => hc j x k u hx hk hu
 exact ⟨hc 0 _ qF rfl, hc 1 _ qF rfl⟩
theorem rEnt.later {w w' : World} {A : Option Addr} {n : Nat} {l : List Ent} (h : rEnt w A n l) (hb : Below w.heap.size w w') : rEnt w' A n l := Fl.later h hb
theorem rEnt.nil (w : World) (A : Option Addr) : rEnt w A 0 [] := Fl.nil w _ A
theorem zan (w : World) (t : TypeId) (rA : Option Addr) (rN : Nat) (rC : Nat) (c : Int) : ∀ j u, (encEnt ⟨rA, rN, rC, c⟩)[j]? = some u -> (w.alloc (.cells #[.slice rA rN rC, .int .i64 c] t)).cell? ((⟨w.heap.size, 0, none⟩ : Addr).add j) = some u := by
 intro j u h
 have hj : j < 2 := by have := (qO h).1; simpa [encEnt] using this
 rw [zaw]
 match j, hj with
 | 0, _ => simp [encEnt] at h; subst h; simp
 | 1, _ => simp [encEnt] at h; subst h; simp
structure Col where
 nm : ByteArray
 k : Int
 nl : Bool
def encCol (x : Col) : List Value := [.string x.nm, .int .i64 x.k, .bool x.nl]
theorem zdn (x : Col) : (encCol x).length = 3 := rfl
def rCol (w : World) (A : Option Addr) (n : Nat) (l : List Col) : Prop := Fl w 3 A n (flat encCol l)
theorem rCol.len {w : World} {A : Option Addr} {n : Nat} {l : List Col} (h : rCol w A n l) : l.length = n := h.count zdn qF
theorem rCol.opn {w : World} {A : Option Addr} {n : Nat} {l : List Col} (h : rCol w A n l) (hn : 0 < n) : ∃ b off, A = some ⟨b, off, none⟩ /\ ∀ (j : Nat) (x : Col), l[j]? = some x -> w.cell? ⟨b, off + j * 3, none⟩ = some (.string x.nm) /\ w.cell? ⟨b, off + j * 3 + 1, none⟩ = some (.int .i64 x.k) /\ w.cell? ⟨b, off + j * 3 + 2, none⟩ = some (.bool x.nl) := by
 obtain ⟨b, off, e, hc⟩ := h.cells zdn hn
 refine ⟨b, off, e, fun j x hx => ?_⟩
 have hc := fun k u hk hu => hc j x k u hx hk hu
 exact ⟨hc 0 _ qF rfl, hc 1 _ qF rfl, hc 2 _ qF rfl⟩
theorem rCol.later {w w' : World} {A : Option Addr} {n : Nat} {l : List Col} (h : rCol w A n l) (hb : Below w.heap.size w w') : rCol w' A n l := Fl.later h hb
structure Rel where
 nm : ByteArray
 coA : Option Addr
 coN : Nat
 coC : Nat
 keA : Option Addr
 keN : Nat
 keC : Nat
 roA : Option Addr
 roN : Nat
 roC : Nat
def encRel (x : Rel) : List Value := [.string x.nm, .slice x.coA x.coN x.coC, .slice x.keA x.keN x.keC, .slice x.roA x.roN x.roC]
structure Itm where
 nm : ByteArray
 f : Int
 co : ByteArray
 num : Int
 exA : Option Addr
 exN : Nat
 exC : Nat
def encItm (x : Itm) : List Value := [.string x.nm, .int .i64 x.f, .string x.co, .int .i64 x.num, .slice x.exA x.exN x.exC]
theorem zg8 (x : Itm) : (encItm x).length = 5 := rfl
def rItm (w : World) (A : Option Addr) (n : Nat) (l : List Itm) : Prop := Fl w 5 A n (flat encItm l)
theorem rItm.opn {w : World} {A : Option Addr} {n : Nat} {l : List Itm} (h : rItm w A n l) (hn : 0 < n) : ∃ b off, A = some ⟨b, off, none⟩ /\ ∀ (j : Nat) (x : Itm), l[j]? = some x -> w.cell? ⟨b, off + j * 5, none⟩ = some (.string x.nm) /\ w.cell? ⟨b, off + j * 5 + 1, none⟩ = some (.int .i64 x.f) /\ w.cell? ⟨b, off + j * 5 + 2, none⟩ = some (.string x.co) /\ w.cell? ⟨b, off + j * 5 + 3, none⟩ = some (.int .i64 x.num) /\ w.cell? ⟨b, off + j * 5 + 4, none⟩ = some (.slice x.exA x.exN x.exC) := by
 obtain ⟨b, off, e, hc⟩ := h.cells zg8 hn
 refine ⟨b, off, e, fun j x hx => ?_⟩
 have hc := fun k u hk hu => hc j x k u hx hk hu
 exact ⟨hc 0 _ qF rfl, hc 1 _ qF rfl, hc 2 _ qF rfl, hc 3 _ qF rfl, hc 4 _ qF rfl⟩
structure Stp where
 op : Int
 so : ByteArray
 naA : Option Addr
 naN : Nat
 naC : Nat
 otA : Option Addr
 otN : Nat
 otC : Nat
 itA : Option Addr
 itN : Nat
 itC : Nat
 coA : Option Addr
 coN : Nat
 coC : Nat
def encStp (x : Stp) : List Value := [.int .i64 x.op, .string x.so, .slice x.naA x.naN x.naC, .slice x.otA x.otN x.otC, .slice x.itA x.itN x.itC, .slice x.coA x.coN x.coC]
theorem zha (x : Stp) : (encStp x).length = 6 := rfl
def rStp (w : World) (A : Option Addr) (n : Nat) (l : List Stp) : Prop := Fl w 6 A n (flat encStp l)
theorem rStp.len {w : World} {A : Option Addr} {n : Nat} {l : List Stp} (h : rStp w A n l) : l.length = n := h.count zha qF
theorem rStp.opn {w : World} {A : Option Addr} {n : Nat} {l : List Stp} (h : rStp w A n l) (hn : 0 < n) : ∃ b off, A = some ⟨b, off, none⟩ /\ ∀ (j : Nat) (x : Stp), l[j]? = some x -> w.cell? ⟨b, off + j * 6, none⟩ = some (.int .i64 x.op) /\ w.cell? ⟨b, off + j * 6 + 1, none⟩ = some (.string x.so) /\ w.cell? ⟨b, off + j * 6 + 2, none⟩ = some (.slice x.naA x.naN x.naC) /\ w.cell? ⟨b, off + j * 6 + 3, none⟩ = some (.slice x.otA x.otN x.otC) /\ w.cell? ⟨b, off + j * 6 + 4, none⟩ = some (.slice x.itA x.itN x.itC) /\ w.cell? ⟨b, off + j * 6 + 5, none⟩ = some (.slice x.coA x.coN x.coC) := by
 obtain ⟨b, off, e, hc⟩ := h.cells zha hn
 refine ⟨b, off, e, fun j x hx => ?_⟩
 have hc := fun k u hk hu => hc j x k u hx hk hu
 exact ⟨hc 0 _ qF rfl, hc 1 _ qF rfl, hc 2 _ qF rfl, hc 3 _ qF rfl, hc 4 _ qF rfl, hc 5 _ qF rfl⟩
structure Nod where
 op : Int
 vk : Int
 vm : Int
 vs : ByteArray
 nm : ByteArray
 ar : Int
def encNod (x : Nod) : List Value := [.int .i64 x.op, .int .i64 x.vk, .int .i64 x.vm, .string x.vs, .string x.nm, .int .i64 x.ar]
theorem zey (x : Nod) : (encNod x).length = 6 := rfl
theorem one1_Nod (x : Nod) : ∀ u ∈ encNod x, u.oneCell' = true := fun u hx => by
 simp [encNod] at hx
 rcases hx with rfl | rfl | rfl | rfl | rfl | rfl <;> rfl
def rNod (w : World) (A : Option Addr) (n : Nat) (l : List Nod) : Prop := Fl w 6 A n (flat encNod l)
theorem rNod.len {w : World} {A : Option Addr} {n : Nat} {l : List Nod} (h : rNod w A n l) : l.length = n := h.count zey qF
theorem rNod.opn {w : World} {A : Option Addr} {n : Nat} {l : List Nod} (h : rNod w A n l) (hn : 0 < n) : ∃ b off, A = some ⟨b, off, none⟩ /\ ∀ (j : Nat) (x : Nod), l[j]? = some x -> w.cell? ⟨b, off + j * 6, none⟩ = some (.int .i64 x.op) /\ w.cell? ⟨b, off + j * 6 + 1, none⟩ = some (.int .i64 x.vk) /\ w.cell? ⟨b, off + j * 6 + 2, none⟩ = some (.int .i64 x.vm) /\ w.cell? ⟨b, off + j * 6 + 3, none⟩ = some (.string x.vs) /\ w.cell? ⟨b, off + j * 6 + 4, none⟩ = some (.string x.nm) /\ w.cell? ⟨b, off + j * 6 + 5, none⟩ = some (.int .i64 x.ar) := by
 obtain ⟨b, off, e, hc⟩ := h.cells zey hn
 refine ⟨b, off, e, fun j x hx => ?_⟩
 have hc := fun k u hk hu => hc j x k u hx hk hu
 exact ⟨hc 0 _ qF rfl, hc 1 _ qF rfl, hc 2 _ qF rfl, hc 3 _ qF rfl, hc 4 _ qF rfl, hc 5 _ qF rfl⟩
theorem rNod.later {w w' : World} {A : Option Addr} {n : Nat} {l : List Nod} (h : rNod w A n l) (hb : Below w.heap.size w w') : rNod w' A n l := Fl.later h hb
theorem zem (w : World) (t : TypeId) (op : Int) (vk : Int) (vm : Int) (vs : ByteArray) (nm : ByteArray) (ar : Int) : ∀ j u, (encNod ⟨op, vk, vm, vs, nm, ar⟩)[j]? = some u -> (w.alloc (.cells #[.int .i64 op, .int .i64 vk, .int .i64 vm, .string vs, .string nm, .int .i64 ar] t)).cell? ((⟨w.heap.size, 0, none⟩ : Addr).add j) = some u := by
 intro j u h
 have hj : j < 6 := by have := (qO h).1; simpa [encNod] using this
 rw [zaw]
 match j, hj with
 | 0, _ => simp [encNod] at h; subst h; simp
 | 1, _ => simp [encNod] at h; subst h; simp
 | 2, _ => simp [encNod] at h; subst h; simp
 | 3, _ => simp [encNod] at h; subst h; simp
 | 4, _ => simp [encNod] at h; subst h; simp
 | 5, _ => simp [encNod] at h; subst h; simp
structure Zon where
 nm : ByteArray
 off : Int
 shA : Option Addr
 shN : Nat
 shC : Nat
def encZon (x : Zon) : List Value := [.string x.nm, .int .i64 x.off, .slice x.shA x.shN x.shC]
theorem zhb (x : Zon) : (encZon x).length = 3 := rfl
def rZon (w : World) (A : Option Addr) (n : Nat) (l : List Zon) : Prop := Fl w 3 A n (flat encZon l)
theorem rZon.len {w : World} {A : Option Addr} {n : Nat} {l : List Zon} (h : rZon w A n l) : l.length = n := h.count zhb qF
theorem rZon.opn {w : World} {A : Option Addr} {n : Nat} {l : List Zon} (h : rZon w A n l) (hn : 0 < n) : ∃ b off, A = some ⟨b, off, none⟩ /\ ∀ (j : Nat) (x : Zon), l[j]? = some x -> w.cell? ⟨b, off + j * 3, none⟩ = some (.string x.nm) /\ w.cell? ⟨b, off + j * 3 + 1, none⟩ = some (.int .i64 x.off) /\ w.cell? ⟨b, off + j * 3 + 2, none⟩ = some (.slice x.shA x.shN x.shC) := by
 obtain ⟨b, off, e, hc⟩ := h.cells zhb hn
 refine ⟨b, off, e, fun j x hx => ?_⟩
 have hc := fun k u hk hu => hc j x k u hx hk hu
 exact ⟨hc 0 _ qF rfl, hc 1 _ qF rfl, hc 2 _ qF rfl⟩
theorem rZon.later {w w' : World} {A : Option Addr} {n : Nat} {l : List Zon} (h : rZon w A n l) (hb : Below w.heap.size w w') : rZon w' A n l := Fl.later h hb
structure Shf where
 pos : Int
 off : Int
def encShf (x : Shf) : List Value := [.int .i64 x.pos, .int .i64 x.off]
theorem zg9 (x : Shf) : (encShf x).length = 2 := rfl
def rShf (w : World) (A : Option Addr) (n : Nat) (l : List Shf) : Prop := Fl w 2 A n (flat encShf l)
theorem rShf.len {w : World} {A : Option Addr} {n : Nat} {l : List Shf} (h : rShf w A n l) : l.length = n := h.count zg9 qF
theorem rShf.opn {w : World} {A : Option Addr} {n : Nat} {l : List Shf} (h : rShf w A n l) (hn : 0 < n) : ∃ b off, A = some ⟨b, off, none⟩ /\ ∀ (j : Nat) (x : Shf), l[j]? = some x -> w.cell? ⟨b, off + j * 2, none⟩ = some (.int .i64 x.pos) /\ w.cell? ⟨b, off + j * 2 + 1, none⟩ = some (.int .i64 x.off) := by
 obtain ⟨b, off, e, hc⟩ := h.cells zg9 hn
 refine ⟨b, off, e, fun j x hx => ?_⟩
 have hc := fun k u hk hu => hc j x k u hx hk hu
 exact ⟨hc 0 _ qF rfl, hc 1 _ qF rfl⟩
theorem rShf.later {w w' : World} {A : Option Addr} {n : Nat} {l : List Shf} (h : rShf w A n l) (hb : Below w.heap.size w w') : rShf w' A n l := Fl.later h hb
theorem rShf.nil (w : World) (A : Option Addr) : rShf w A 0 [] := Fl.nil w _ A
structure Knd where
 k : Int
 nl : Bool
def encKnd (x : Knd) : List Value := [.int .i64 x.k, .bool x.nl]
theorem zcu (x : Knd) : (encKnd x).length = 2 := rfl
theorem one1_Knd (x : Knd) : ∀ u ∈ encKnd x, u.oneCell' = true := fun u hx => by
 simp [encKnd] at hx
 rcases hx with rfl | rfl <;> rfl
def rKnd (w : World) (A : Option Addr) (n : Nat) (l : List Knd) : Prop := Fl w 2 A n (flat encKnd l)
theorem rKnd.len {w : World} {A : Option Addr} {n : Nat} {l : List Knd} (h : rKnd w A n l) : l.length = n := h.count zcu qF
theorem rKnd.opn {w : World} {A : Option Addr} {n : Nat} {l : List Knd} (h : rKnd w A n l) (hn : 0 < n) : ∃ b off, A = some ⟨b, off, none⟩ /\ ∀ (j : Nat) (x : Knd), l[j]? = some x -> w.cell? ⟨b, off + j * 2, none⟩ = some (.int .i64 x.k) /\ w.cell? ⟨b, off + j * 2 + 1, none⟩ = some (.bool x.nl) := by
 obtain ⟨b, off, e, hc⟩ := h.cells zcu hn
 refine ⟨b, off, e, fun j x hx => ?_⟩
 have hc := fun k u hk hu => hc j x k u hx hk hu
 exact ⟨hc 0 _ qF rfl, hc 1 _ qF rfl⟩
theorem rKnd.later {w w' : World} {A : Option Addr} {n : Nat} {l : List Knd} (h : rKnd w A n l) (hb : Below w.heap.size w w') : rKnd w' A n l := Fl.later h hb
theorem rKnd.nil (w : World) (A : Option Addr) : rKnd w A 0 [] := Fl.nil w _ A
structure Prt where
 keA : Option Addr
 keN : Nat
 keC : Nat
 roA : Option Addr
 roN : Nat
 roC : Nat
theorem zhn (x y : UInt8) : x < y ∨ x = y ∨ y < x := by
 by_cases h : x = y
 . exact .inr (.inl h)
 . rcases UInt8.lt_or_lt_of_ne h with h1 | h1
   . exact .inl h1
   . exact .inr (.inr h1)
theorem zh0 (a b : Int) : Lib.compareInt a b = 0 ↔ a = b := by unfold Lib.compareInt; split; simp; omega; split <;> simp <;> omega
theorem ci_neg (a b : Int) : Lib.compareInt a b < 0 ↔ a < b := by unfold Lib.compareInt; split; simpa; split <;> simp <;> omega
theorem zhx : ∀ a b : List UInt8, Lib.compareBytes a b = - Lib.compareBytes b a
 | [], [] => rfl
 | [], _ :: _ => rfl
 | _ :: _, [] => rfl
 | x :: a, y :: b => by
   unfold Lib.compareBytes
   rcases zhn x y with h | h | h
   . have h2 : ¬ y < x := UInt8.lt_asymm h
     simp [h, h2]
   . subst h
     simp [UInt8.lt_irrefl]
     exact zhx a b
   . have h2 : ¬ x < y := UInt8.lt_asymm h
     simp [h, h2]
theorem zew : ∀ a b : List UInt8, Lib.compareBytes a b = 0 ↔ a = b
 | [], [] => by simp [Lib.compareBytes]
 | [], _ :: _ => by simp [Lib.compareBytes]
 | _ :: _, [] => by simp [Lib.compareBytes]
 | x :: a, y :: b => by
   unfold Lib.compareBytes
   rcases zhn x y with h | h | h
   . have h2 : ¬ x = y := fun e => by subst e; exact UInt8.lt_irrefl _ h
     simp [h, h2]
   . subst h
     simp [UInt8.lt_irrefl]
     exact zew a b
   . have h2 : ¬ x = y := fun e => by subst e; exact UInt8.lt_irrefl _ h
     have h3 : ¬ x < y := UInt8.lt_asymm h
     simp [h, h2, h3]
theorem zlw : ∀ a b c : List UInt8, Lib.compareBytes a b < 0 -> Lib.compareBytes b c < 0 -> Lib.compareBytes a c < 0
 | [], [], _, h, _ => by simp [Lib.compareBytes] at h
 | _ :: _, [], _, h, _ => by simp [Lib.compareBytes] at h
 | _, _ :: _, [], _, h => by simp [Lib.compareBytes] at h
 | [], _ :: _, _ :: _, _, _ => by simp [Lib.compareBytes]
 | x :: a, y :: b, z :: c, h1, h2 => by
   unfold Lib.compareBytes at h1 h2 ⊢
   rcases zhn x y with h | h | h
   . rcases zhn y z with k | k | k
     . have := UInt8.lt_trans h k
       simp [this]
     . subst k; simp [h]
     . have k2 : ¬ y < z := UInt8.lt_asymm k
       simp [k, k2] at h2
   . subst h
     simp [UInt8.lt_irrefl] at h1
     rcases zhn x z with k | k | k
     . simp [k]
     . subst k
       simp [UInt8.lt_irrefl] at h2 ⊢
       exact zlw a b c h1 h2
     . have k2 : ¬ x < z := UInt8.lt_asymm k
       simp [k, k2] at h2
   . have h3 : ¬ x < y := UInt8.lt_asymm h
     simp [h, h3] at h1
def cmpV (a b : Val) : Int :=
 if Lib.compareInt a.k b.k = 0 then (if Lib.compareInt a.m b.m = 0 then Lib.compareBytes a.s.toList b.s.toList else Lib.compareInt a.m b.m) else Lib.compareInt a.k b.k
def ltV (a b : Val) : Prop := a.k < b.k ∨ a.k = b.k /\ (a.m < b.m ∨ a.m = b.m /\ Lib.compareBytes a.s.toList b.s.toList < 0)
theorem zqo {a b : Val} (h1 : a.k = b.k) (h2 : a.m = b.m) (h3 : a.s = b.s) : a = b := by cases a; cases b; simp at h1 h2 h3; simp [h1, h2, h3]
theorem zh1 (a b : Val) : cmpV a b < 0 ↔ ltV a b := by
 have c1 := zh0 a.k b.k
 have c2 := zh0 a.m b.m
 have c3 := ci_neg a.k b.k
 have c4 := ci_neg a.m b.m
 unfold cmpV ltV
 split
 . split
   . constructor
     . intro h; exact .inr ⟨c1.1 ‹_›, .inr ⟨c2.1 ‹_›, h⟩⟩
     . rintro (h | ⟨_, h | ⟨_, h⟩⟩)
       . have := c1.1 ‹_›; omega
       . have := c2.1 ‹_›; omega
       . exact h
   . constructor
     . intro h; exact .inr ⟨c1.1 ‹_›, .inl (c4.1 h)⟩
     . rintro (h | ⟨_, h | ⟨h, _⟩⟩)
       . have := c1.1 ‹_›; omega
       . exact c4.2 h
       . exact absurd (c2.2 h) ‹_›
 . constructor
   . intro h; exact .inl (c3.1 h)
   . rintro (h | ⟨h, _⟩)
     . exact c3.2 h
     . exact absurd (c1.2 h) ‹_›
theorem zct (a b : Val) : cmpV a b = 0 ↔ a = b := by
 have c1 := zh0 a.k b.k
 have c2 := zh0 a.m b.m
 have c3 := zew a.s.toList b.s.toList
 unfold cmpV
 constructor
 . intro h
   split at h
   . split at h
     . exact zqo (c1.1 ‹_›) (c2.1 ‹_›) (toList_inj (c3.1 h))
     . exact absurd h ‹_›
   . exact absurd h ‹_›
 . rintro rfl
   rw [if_pos (c1.2 rfl), if_pos (c2.2 rfl)]
   exact c3.2 rfl
theorem zob (a b : Int) : Lib.compareInt a b = - Lib.compareInt b a := by
 unfold Lib.compareInt
 rcases Int.lt_trichotomy a b with h | h | h
 . have : ¬ b < a := by omega
   simp [h, this]
 . subst h; simp
 . have : ¬ a < b := by omega
   simp [h, this]
theorem zoc (a b : Val) : cmpV a b = - cmpV b a := by
 have f1 := zob a.k b.k
 have f2 := zob a.m b.m
 have f3 := zhx a.s.toList b.s.toList
 unfold cmpV
 by_cases h1 : Lib.compareInt b.k a.k = 0
 . by_cases h2 : Lib.compareInt b.m a.m = 0
   . rw [if_pos qF, if_pos qF, if_pos h1, if_pos h2]; exact f3
   . rw [if_pos qF, if_neg qF, if_pos h1, if_neg h2]; exact f2
 . rw [if_neg qF, if_neg h1]; exact f1
theorem zpd {a b c : Val} (h1 : ltV a b) (h2 : ltV b c) : ltV a c := by
 unfold ltV at *
 rcases h1 with h1 | ⟨e1, h1⟩
 . rcases h2 with h2 | ⟨e2, h2⟩ <;> (left; omega)
 . rcases h2 with h2 | ⟨e2, h2⟩
   . left; omega
   . right
     refine ⟨by omega, ?_⟩
     rcases h1 with h1 | ⟨e3, h1⟩
     . rcases h2 with h2 | ⟨e4, h2⟩ <;> (left; omega)
     . rcases h2 with h2 | ⟨e4, h2⟩
       . left; omega
       . right; exact ⟨by omega, zlw _ _ _ h1 h2⟩
def cmpR : List Val -> List Val -> Int
 | [], [] => 0
 | [], _ :: _ => -1
 | _ :: _, [] => 1
 | x :: a, y :: b => if cmpV x y = 0 then cmpR a b else cmpV x y
theorem zar : ∀ a b : List Val, cmpR a b = 0 ↔ a = b
 | [], [] => by simp [cmpR]
 | [], _ :: _ => by simp [cmpR]
 | _ :: _, [] => by simp [cmpR]
 | x :: a, y :: b => by
   have h := zct x y
   have ih := zar a b
   unfold cmpR
   constructor
   . intro e
     split at e
     . rw [h.1 ‹_›, ih.1 e]
     . exact absurd e ‹_›
   . intro e
     simp at e
     rw [if_pos (h.2 e.1)]
     exact ih.2 e.2
theorem zf0 (a : List Val) : cmpR a a = 0 := (zar a a).2 rfl
theorem zbs : ∀ a b : List Val, cmpR a b = - cmpR b a
 | [], [] => rfl
 | [], _ :: _ => rfl
 | _ :: _, [] => rfl
 | x :: a, y :: b => by
   have h := zoc x y
   have ih := zbs a b
   unfold cmpR
   by_cases e : cmpV y x = 0
   . rw [if_pos qF, if_pos e]; exact ih
   . rw [if_neg qF, if_neg e]; exact h
theorem zbi : ∀ a b c : List Val, cmpR a b < 0 -> cmpR b c < 0 -> cmpR a c < 0
 | [], [], _, h, _ => by simp [cmpR] at h
 | _ :: _, [], _, h, _ => by simp [cmpR] at h
 | _, _ :: _, [], _, h => by simp [cmpR] at h
 | [], _ :: _, _ :: _, _, _ => by simp [cmpR]
 | x :: a, y :: b, z :: c, h1, h2 => by
   unfold cmpR at h1 h2 ⊢
   by_cases e1 : cmpV x y = 0
   . have e := (zct _ _).1 e1
     subst e
     rw [if_pos e1] at h1
     by_cases e2 : cmpV x z = 0
     . rw [if_pos e2] at h2 ⊢
       exact zbi a b c h1 h2
     . rw [if_neg e2] at h2 ⊢
       exact h2
   . rw [if_neg e1] at h1
     by_cases e2 : cmpV y z = 0
     . have e := (zct _ _).1 e2
       subst e
       rw [if_neg e1]
       exact h1
     . rw [if_neg e2] at h2
       have h3 := (zh1 _ _).2 (zpd ((zh1 _ _).1 h1) ((zh1 _ _).1 h2))
       rw [if_neg qF]
       exact h3
def Asc : List (List Val × Int) -> Prop
 | [] => True
 | x :: l => (∀ y ∈ l, cmpR x.1 y.1 < 0) /\ Asc l
def cnt : List (List Val × Int) -> List Val -> Int
 | [], _ => 0
 | x :: l, r => (if cmpR x.1 r = 0 then x.2 else 0) + cnt l r
theorem zcc (a b : List (List Val × Int)) (r : List Val) : cnt (a ++ b) r = cnt a r + cnt b r := by
 induction a with
 | nil => simp [cnt]
 | cons x a ih => rw [List.cons_append, cnt, cnt, ih]; omega
theorem cnt_perm {a b : List (List Val × Int)} (h : a.Perm b) (r : List Val) : cnt a r = cnt b r := by
 induction h with
 | nil => rfl
 | cons x _ ih => rw [cnt, cnt, ih]
 | swap x y l => simp only [cnt]; omega
 | trans _ _ h1 h2 => rw [h1, h2]
theorem zoe {l : List (List Val × Int)} {r : List Val} (h : ∀ y ∈ l, cmpR r y.1 < 0) : cnt l r = 0 := by
 induction l with
 | nil => rfl
 | cons x l ih =>
   have h1 := h x (List.mem_cons_self ..)
   have h2 := zbs x.1 r
   rw [cnt, if_neg qF, ih (fun y hy => h y (qW _ hy))]
   rfl
def Bag (l : List (List Val × Int)) : Prop := Asc l /\ ∀ x ∈ l, x.2 ≠ 0
theorem Bag.tail {x : List Val × Int} {l : List (List Val × Int)} (h : Bag (x :: l)) : Bag l := ⟨h.1.2, fun y hy => h.2 y (qW _ hy)⟩
theorem Bag.cnt_head {x : List Val × Int} {l : List (List Val × Int)} (h : Bag (x :: l)) : cnt (x :: l) x.1 = x.2 := by
 rw [cnt, if_pos (zf0 _), zoe h.1.1]; omega
theorem Bag.ext : ∀ {a b : List (List Val × Int)}, Bag a -> Bag b -> (∀ r, cnt a r = cnt b r) -> a = b
 | [], [], _, _, _ => rfl
 | [], y :: b, _, hb, h => by
   have := h y.1
   rw [hb.cnt_head] at this
   exact absurd this.symm (hb.2 y (List.mem_cons_self ..))
 | x :: a, [], ha, _, h => by
   have := h x.1
   rw [ha.cnt_head] at this
   exact absurd this (ha.2 x (List.mem_cons_self ..))
 | x :: a, y :: b, ha, hb, h => by
   have hx := h x.1
   have hy := h y.1
   rw [ha.cnt_head] at hx
   rw [hb.cnt_head] at hy
   have hf := zbs x.1 y.1
   rcases Int.lt_trichotomy (cmpR x.1 y.1) 0 with c | c | c
   . rw [zoe (l := y :: b) (r := x.1) (fun z hz => by
      rcases qY hz with e | hz
      . subst e; exact c
      . exact zbi _ _ _ c (hb.1.1 z hz))] at hx
     exact absurd hx (ha.2 x (List.mem_cons_self ..))
   . have e := (zar _ _).1 c
     rw [<- e, ha.cnt_head] at hy
     have e2 : x = y := by cases x; cases y; simp at e hy; simp [e, hy]
     subst e2
     rw [Bag.ext ha.tail hb.tail (fun r => by have := h r; simp only [cnt] at this; omega)]
   . rw [zoe (l := x :: a) (r := y.1) (fun z hz => by
      rcases qY hz with e | hz
      . subst e; omega
      . exact zbi _ _ _ qF (ha.1.1 z hz))] at hy
     exact absurd hy.symm (hb.2 y (List.mem_cons_self ..))
abbrev Tab := List (List Val × Int)
def insB (r : List Val) (n : Int) : Tab -> Tab
 | [] => if n = 0 then [] else [(r, n)]
 | x :: l => if cmpR r x.1 < 0 then (if n = 0 then x :: l else (r, n) :: x :: l)
   else if cmpR r x.1 = 0 then (if x.2 + n = 0 then l else (x.1, x.2 + n) :: l) else x :: insB r n l
theorem zmb {r : List Val} {n : Int} {l : Tab} {y : List Val × Int} (h : y ∈ insB r n l) : y.1 = r ∨ ∃ z ∈ l, z.1 = y.1 := by
 induction l with
 | nil =>
   unfold insB at h
   split at h
   . cases h
   . simp at h; subst h; exact .inl rfl
 | cons x l ih =>
   unfold insB at h
   split at h
   . split at h
     . exact .inr ⟨y, h, rfl⟩
     . rcases qY h with rfl | h
       . exact .inl rfl
       . exact .inr ⟨y, h, rfl⟩
   . split at h
     . split at h
       . exact .inr ⟨y, qW _ h, rfl⟩
       . rcases qY h with rfl | h
         . exact .inr ⟨x, List.mem_cons_self .., rfl⟩
         . exact .inr ⟨y, qW _ h, rfl⟩
     . rcases qY h with rfl | h
       . exact .inr ⟨_, List.mem_cons_self .., rfl⟩
       . rcases ih h with h | ⟨z, hz, h⟩
         . exact .inl h
         . exact .inr ⟨z, qW _ hz, h⟩
theorem Bag.cons {x : List Val × Int} {l : Tab} (h : Bag l) (h1 : ∀ y ∈ l, cmpR x.1 y.1 < 0) (h2 : x.2 ≠ 0) : Bag (x :: l) :=
 ⟨⟨h1, h.1⟩, fun y hy => by
   rcases qY hy with rfl | hy
   . exact h2
   . exact h.2 y hy⟩
theorem insB_bag {r : List Val} {n : Int} {l : Tab} (h : Bag l) : Bag (insB r n l) := by
 induction l with
 | nil =>
   unfold insB
   split
   . exact h
   . exact Bag.cons h (fun y hy => by cases hy) ‹_›
 | cons x l ih =>
   unfold insB
   split
   . split
     . exact h
     . refine Bag.cons h (fun y hy => ?_) ‹_›
       rcases qY hy with rfl | hy
       . assumption
       . exact zbi _ _ _ ‹_› (h.1.1 y hy)
   . split
     . split
       . exact h.tail
       . exact Bag.cons h.tail h.1.1 ‹_›
     . refine Bag.cons (ih h.tail) (fun y hy => ?_) (h.2 x (List.mem_cons_self ..))
       have hf := zbs x.1 r
       rcases zmb hy with e | ⟨z, hz, e⟩
       . rw [e]; omega
       . rw [<- e]; exact h.1.1 z hz
theorem insB_cnt (r : List Val) (n : Int) (l : Tab) (s : List Val) : cnt (insB r n l) s = (if cmpR r s = 0 then n else 0) + cnt l s := by
 induction l with
 | nil =>
   unfold insB
   split
   . rename_i h; subst h; simp [cnt]
   . simp [cnt]
 | cons x l ih =>
   unfold insB
   split
   . split
     . rename_i h; subst h; simp
     . rfl
   . split
     . rename_i h
       have e := (zar _ _).1 h
       subst e
       split
       . rename_i h2
         rw [cnt]
         split <;> omega
       . rw [cnt, cnt]
         split <;> omega
     . rw [cnt, ih, cnt]; omega
def normV (l : Tab) : Tab := l.foldr (fun x t => insB x.1 x.2 t) []
theorem zdq (x : List Val × Int) (l : Tab) : normV (x :: l) = insB x.1 x.2 (normV l) := rfl
theorem zde (l : Tab) : Bag (normV l) := by
 induction l with
 | nil => exact ⟨trivial, fun y hy => by cases hy⟩
 | cons x l ih => exact insB_bag ih
theorem zdf (l : Tab) (r : List Val) : cnt (normV l) r = cnt l r := by
 induction l with
 | nil => rfl
 | cons x l ih => rw [zdq, insB_cnt, ih, cnt]
theorem zh9 {a l : Tab} (h : Bag a) (h2 : ∀ r, cnt a r = cnt l r) : a = normV l := Bag.ext h (zde l) fun r => by rw [h2, zdf]
theorem Bag.cnt_mem : ∀ {l : Tab} (_ : Bag l) {x : List Val × Int} (_ : x ∈ l), cnt l x.1 = x.2
 | y :: l, h, x, hx => by
   rcases qY hx with rfl | hx
   . exact h.cnt_head
   . have h1 := h.1.1 x hx
     rw [cnt, if_neg qF, Bag.cnt_mem h.tail hx]; omega
def dAll {α β : Type} (R : α -> β -> Prop) : List α -> List β -> Prop
 | [], [] => True
 | a :: l, b :: m => R a b /\ dAll R l m
 | _, _ => False
section
variable {α β : Type} {R S : α -> β -> Prop}
theorem dAll.one {a : α} {b : β} (h : R a b) : dAll R [a] [b] := ⟨h, trivial⟩
theorem dAll.len : ∀ {l : List α} {m : List β} (_ : dAll R l m), l.length = m.length
 | [], [], _ => rfl
 | a :: l, b :: m, h => by rw [List.length_cons, List.length_cons, dAll.len h.2]
theorem dAll.imp (hi : ∀ a b, R a b -> S a b) : ∀ {l : List α} {m : List β} (_ : dAll R l m), dAll S l m
 | [], [], _ => trivial
 | a :: l, b :: m, h => ⟨hi _ _ h.1, dAll.imp hi h.2⟩
theorem dAll.get : ∀ {l : List α} {m : List β} (_ : dAll R l m) {j : Nat} {a : α} (_ : l[j]? = some a), ∃ b, m[j]? = some b /\ R a b
 | [], _, _, _, _, hx => by simp at hx
 | a :: l, b :: m, h, 0, x, hx => by simp at hx; subst hx; exact ⟨b, rfl, h.1⟩
 | a :: l, b :: m, h, j + 1, x, hx => by
   obtain ⟨y, hy, hr⟩ := dAll.get h.2 (j := j) (a := x) (by simpa using hx)
   exact ⟨y, by simpa using hy, hr⟩
theorem dAll.get2 : ∀ {l : List α} {m : List β} (_ : dAll R l m) {j : Nat} {b : β} (_ : m[j]? = some b), ∃ a, l[j]? = some a /\ R a b
 | _, [], _, _, _, hx => by simp at hx
 | a :: l, b :: m, h, 0, x, hx => by simp at hx; subst hx; exact ⟨a, rfl, h.1⟩
 | a :: l, b :: m, h, j + 1, x, hx => by
   obtain ⟨y, hy, hr⟩ := dAll.get2 h.2 (j := j) (b := x) (by simpa using hx)
   exact ⟨y, by simpa using hy, hr⟩
theorem dAll.append : ∀ {l : List α} {m : List β} {l' : List α} {m' : List β} (_ : dAll R l m) (_ : dAll R l' m'), dAll R (l ++ l') (m ++ m')
 | [], [], _, _, _, h => h
 | a :: l, b :: m, _, _, h, h' => ⟨h.1, dAll.append h.2 h'⟩
 | [], _ :: _, _, _, h, _ => h.elim
 | _ :: _, [], _, _, h, _ => h.elim
theorem dAll.snoc {l : List α} {m : List β} {a : α} {b : β} (h : dAll R l m) (h' : R a b) : dAll R (l ++ [a]) (m ++ [b]) := h.append (.one h')
theorem dAll.drop : ∀ {l : List α} {m : List β} (_ : dAll R l m) (k : Nat), dAll R (l.drop k) (m.drop k)
 | [], [], _, 0 => trivial
 | _ :: _, _ :: _, h, 0 => h
 | [], [], _, k + 1 => trivial
 | a :: l, b :: m, h, k + 1 => dAll.drop h.2 k
theorem dAll.take : ∀ {l : List α} {m : List β} (_ : dAll R l m) (k : Nat), dAll R (l.take k) (m.take k)
 | [], [], _, 0 => trivial
 | _ :: _, _ :: _, _, 0 => trivial
 | [], [], _, k + 1 => trivial
 | a :: l, b :: m, h, k + 1 => ⟨h.1, dAll.take h.2 k⟩
theorem dAll.of_get : ∀ {l : List α} {m : List β} (_ : l.length = m.length) (_ : ∀ (j : Nat) (a : α) (b : β), l[j]? = some a -> m[j]? = some b -> R a b), dAll R l m
 | [], [], _, _ => trivial
 | a :: l, b :: m, hl, h => ⟨h 0 a b rfl rfl, dAll.of_get (by simpa using hl) fun j x y hx hy => h (j + 1) x y (by simpa using hx) (by simpa using hy)⟩
end
def dEnt (w : World) (e : Ent) (x : List Val × Int) : Prop := rVal w e.rA e.rN x.1 /\ e.c = x.2
def rTab (w : World) (A : Option Addr) (n : Nat) (t : Tab) : Prop := ∃ es, rEnt w A n es /\ dAll (dEnt w) es t
section
variable {w w' : World} {A : Option Addr} {n : Nat} {t : Tab}
theorem dEnt.later {e : Ent} {x : List Val × Int} (h : dEnt w e x) (hb : Below w.heap.size w w') : dEnt w' e x := ⟨h.1.later hb, h.2⟩
theorem dEnts.later {es : List Ent} (h : dAll (dEnt w) es t) (hb : Below w.heap.size w w') : dAll (dEnt w') es t := h.imp fun _ _ h => h.later hb
theorem rTab.later (h : rTab w A n t) (hb : Below w.heap.size w w') : rTab w' A n t := by
 obtain ⟨es, h1, h2⟩ := h
 exact ⟨es, h1.later hb, dEnts.later h2 hb⟩
theorem rTab.len (h : rTab w A n t) : t.length = n := by
 obtain ⟨es, h1, h2⟩ := h
 rw [<- h2.len, h1.len]
theorem rTab.nil (w : World) (A : Option Addr) : rTab w A 0 [] := ⟨[], rEnt.nil w A, trivial⟩
theorem rTab.opn (h : rTab w A n t) (hn : 0 < n) : ∃ b off, A = some ⟨b, off, none⟩ /\ ∀ (j : Nat) (x : List Val × Int), t[j]? = some x -> ∃ (rA : Option Addr) (rN rC : Nat), w.cell? ⟨b, off + j * 2, none⟩ = some (.slice rA rN rC) /\ w.cell? ⟨b, off + j * 2 + 1, none⟩ = some (.int .i64 x.2) /\ rVal w rA rN x.1 := by
 obtain ⟨es, h1, h2⟩ := h
 obtain ⟨b, off, e, hc⟩ := h1.opn hn
 refine ⟨b, off, e, fun j x hx => ?_⟩
 obtain ⟨a, ha, hr⟩ := h2.get2 hx
 obtain ⟨c1, c2⟩ := hc j a ha
 exact ⟨a.rA, a.rN, a.rC, c1, by rw [c2, hr.2], hr.1⟩
end
theorem za0 (w : World) : Below w.heap.size w w := Below.refl _ w
theorem zae (w : World) (o : Obj) : Below w.heap.size w (w.alloc o) := (Below.refl _ w).alloc (qV _) o
theorem btr {a b c : World} (h : Below a.heap.size a b) (k : Below b.heap.size b c) : Below a.heap.size a c := h.trans (k.mono h.size)
structure Gro (w : World) where
 world : World
 below : Below w.heap.size w world
instance (w : World) : Inhabited (Gro w) := ⟨⟨w, Below.refl _ _⟩⟩
theorem Gro.cell {w : World} {a : Addr} {v : Value} (h : w.cell? a = some v) (p : Gro w) : p.world.cell? a = some v := qM p.below h
theorem zai {P : Program} {id : Nat} {Q : Exit -> Act -> World -> Prop} {a : Act} {w : World} {l : List Oper} (hm : P.follows .mixedOrders = true) (hB : Region.lexB .any l.toArray = true)
 (h : wpQuiet P l.toArray (fun w' => ∃ p : Gro w, w' = p.world) (fun a' => ∀ w', (∃ p : Gro w, w' = p.world) -> Q .normal a' w') l a) : (Code.region id l.toArray true).wp P Q a w :=
 wp_region_quiet (C := fun w' => ∃ p : Gro w, w' = p.world) hm hB ⟨⟨w.drew, (Below.refl _ _).drew⟩, rfl⟩ (by simpa using h)
theorem Calls.gro_of {P : Program} {f : FuncId} {args : Array Value} {w : World} {p : Gro w} {v : Value}
 (h : Calls P f args p.world fun e w' => e = .returned v /\ Below p.world.heap.size p.world w') : Calls P f args p.world fun e w'' => e = .returned v /\ ∃ q : Gro w, w'' = q.world :=
 h.mono fun _ _ ⟨he, hb⟩ => ⟨he, ⟨_, btr p.below hb⟩, rfl⟩
def farFrom (ps : List (Option Addr × Nat)) (row : Option Nat) : Prop := ∀ p ∈ ps, 0 < p.2 -> ∀ ad, p.1 = some ad -> some ad.block ≠ row
def under (ps : List (Option Addr × Nat)) (B : Nat) : Prop := ∀ p ∈ ps, 0 < p.2 -> ∀ ad, p.1 = some ad -> ad.block < B
structure Kin (α β : Type) where
 enc : α -> List Value
 C : Nat
 e : TypeId
 ptrs : α -> List (Option Addr × Nat)
 D : World -> α -> β -> Prop
 len : ∀ x, (enc x).length = C
 pos : 0 < C
 one : ∀ x, ∀ u ∈ enc x, u.oneCell' = true
 later : ∀ {w w' a b}, D w a b -> Below w.heap.size w w' -> D w' a b
 kept : ∀ {w w' row a b}, D w a b -> World.grownBy w w' row -> farFrom (ptrs a) row -> D w' a b
 lt : ∀ {w a b}, D w a b -> under (ptrs a) w.heap.size
section
variable {α β : Type} (K : Kin α β)
def rD (w : World) (A : Option Addr) (n : Nat) (l : List β) : Prop := ∃ az, Fl w K.C A n (flat K.enc az) /\ dAll (K.D w) az l
def ownD (w : World) (base : Nat) (v : Value) (n : Nat) (l : List β) : Prop :=
 ∃ az, w.ownsRow base K.e K.C v n (flat K.enc az) /\ dAll (K.D w) az l /\ ∀ a ∈ az, farFrom (K.ptrs a) v.ownBlock
variable {K} {w w' : World} {A : Option Addr} {n base : Nat} {v : Value} {l : List β}
theorem rD.len (h : rD K w A n l) : l.length = n := by
 obtain ⟨az, h1, h2⟩ := h
 rw [<- h2.len]; exact h1.count K.len K.pos
theorem rD.later (h : rD K w A n l) (hb : Below w.heap.size w w') : rD K w' A n l := by
 obtain ⟨az, h1, h2⟩ := h
 exact ⟨az, h1.later hb, h2.imp fun _ _ h => K.later h hb⟩
theorem rD.nil (w : World) (A : Option Addr) : rD K w A 0 [] := ⟨[], Fl.nil w _ A, trivial⟩
theorem rD.opn (h : rD K w A n l) (hn : 0 < n) : ∃ b off, A = some ⟨b, off, none⟩ /\ ∀ (j : Nat) (x : β), l[j]? = some x -> ∃ a, K.D w a x /\ ∀ (k : Nat) (u : Value), k < K.C -> (K.enc a)[k]? = some u -> w.cell? ⟨b, off + j * K.C + k, none⟩ = some u := by
 obtain ⟨az, h1, h2⟩ := h
 obtain ⟨b, off, e, hc⟩ := h1.cells K.len hn
 refine ⟨b, off, e, fun j x hx => ?_⟩
 obtain ⟨a, ha, hr⟩ := h2.get2 hx
 exact ⟨a, hr, fun k u hk hu => hc j a k u ha hk hu⟩
theorem rD.drop (h : rD K w A n l) (k : Nat) (hk : k <= n) {b off : Nat} (hA : A = some ⟨b, off, none⟩) : rD K w (some ⟨b, off + k * K.C, none⟩) (n - k) (l.drop k) := by
 obtain ⟨az, h1, h2⟩ := h
 exact ⟨az.drop k, by rw [zi1 K.len]; exact h1.drop k hk hA, h2.drop k⟩
theorem zea {α : Type} {enc : α -> List Value} {C : Nat} (hC : ∀ x, (enc x).length = C) : ∀ (l : List α) (k : Nat), flat enc (l.take k) = (flat enc l).take (k * C)
 | l, 0 => by simp [flat]
 | [], k + 1 => by simp [flat]
 | x :: l, k + 1 => by
   have e : (k + 1) * C = (enc x).length + k * C := by rw [hC, Nat.succ_mul]; omega
   rw [List.take_succ_cons, zba, zea hC l k, zba, e, List.take_length_add_append]
theorem rD.take (h : rD K w A n l) (k : Nat) (hk : k <= n) : rD K w A k (l.take k) := by
 obtain ⟨az, h1, h2⟩ := h
 exact ⟨az.take k, by rw [zea K.len]; exact h1.take k hk, h2.take k⟩
theorem rD.cut (h : rD K w A n l) (hn : 0 < n) {c : Nat} (hc : n <= c) : rD K w (if c = 1 then A else A.map (·.add K.C)) (n - 1) (l.drop 1) := by
 obtain ⟨b, off, e, _⟩ := h.opn hn
 by_cases h1 : c = 1
 . rw [if_pos h1]
   have h0 : n - 1 = 0 := by omega
   have := h.len
   rw [h0, List.drop_eq_nil_of_le qF]
   exact rD.nil _ _
 . rw [if_neg h1, e, Option.map_some, zaw]
   have := h.drop 1 hn e
   rwa [Nat.one_mul] at this
theorem ownD.nil (w : World) (base : Nat) : ownD K w base (.slice none 0 0) 0 [] := ⟨[], World.ownsRow_nil w base _ _, trivial, fun a h => by cases h⟩
theorem ownD.len (h : ownD K w base v n l) : l.length = n := by
 obtain ⟨az, h1, h2, _⟩ := h
 have := h1.1
 rw [zau K.len] at this
 rw [<- h2.len]
 exact Nat.eq_of_mul_eq_mul_right K.pos this
theorem ownD.lt (h : ownD K w base v n l) : ∀ k, v.ownBlock = some k -> base <= k /\ k < w.heap.size := by
 obtain ⟨az, h1, _⟩ := h
 exact h1.lt
theorem ownD.rd (h : ownD K w base v n l) : ∃ A c, v = .slice A n c /\ n <= c /\ rD K w A n l /\ ∀ a, A = some a -> base <= a.block /\ a.block < w.heap.size := by
 obtain ⟨az, h1, h2, _⟩ := h
 have hlt := h1.lt
 have hle : ∀ {A c}, v = .slice A n c -> n <= c := by
  intro A c e
  rcases h1.2 with ⟨e1, e2⟩ | ⟨g, cap, cur, e1, _, _, hnc, _⟩
  . omega
  . rw [e1] at e; injection e with _ _ e3; omega
 obtain ⟨A, c, e, hr, hb⟩ := zd9 h1
 exact ⟨A, c, e, hle e, ⟨az, hr, h2⟩, fun a ha => hlt a.block (by rw [e, ha]; rfl)⟩
theorem ownD.kept {row : Option Nat} (h : ownD K w base v n l) (hg : w.grownBy w' row) (hne : v.ownBlock = none ∨ v.ownBlock ≠ row) (hf : ∀ a ∈ ([] : List α), True) (hp : ∀ az, dAll (K.D w) az l -> ∀ a ∈ az, farFrom (K.ptrs a) row) : ownD K w' base v n l := by
 obtain ⟨az, h1, h2, h3⟩ := h
 have hp := hp az h2
 refine ⟨az, h1.kept hg hne, ?_, h3⟩
 exact dAll.of_get h2.len fun j a b ha hb => by
  obtain ⟨b', hb', hr⟩ := h2.get ha
  rw [hb] at hb'
  cases hb'
  exact K.kept hr hg (hp a (qP ha))
theorem ownD.later (h : ownD K w base v n l) (hb : Below w.heap.size w w') : ownD K w' base v n l := by
 obtain ⟨az, h1, h2, h3⟩ := h
 refine ⟨az, h1.kept (row := none) ⟨hb.os, hb.tape, hb.output, hb.size, fun k hk _ => hb.block k hk⟩ ?_, h2.imp fun _ _ h => K.later h hb, h3⟩
 cases hv : v.ownBlock
 . exact .inl rfl
 . exact .inr qH
theorem ownD.mono (h : ownD K w base v n l) {base' : Nat} (hb : base' <= base) : ownD K w base' v n l := by
 obtain ⟨az, ⟨h0, h1⟩, h2, h3⟩ := h
 refine ⟨az, ⟨h0, ?_⟩, h2, h3⟩
 rcases h1 with h1 | ⟨g, cap, cur, e, hg, r⟩
 . exact .inl h1
 . exact .inr ⟨g, cap, cur, e, by omega, r⟩
end
structure KinP {α β : Type} (P : Program) (K : Kin α β) (t : TypeId) (i : TypeInfo) (z : Value) (bytes : Nat) : Prop where
 ht : P.underlying t = some (.slice K.e)
 hi : P.info? K.e = some i
 hz : i.zero = some z
 hs : i.size = K.C
 hb : i.bytes = bytes
 hzs : z.cells.size = K.C
 small : bytes <= 1000
section
variable {α β : Type} {K : Kin α β} {P : Program} {t : TypeId} {i : TypeInfo} {z : Value} {bytes : Nat}
theorem zfo (hP : KinP P K t i z bytes) (w : World) {base n c : Nat} {v : Value} {l : List β} (h : ownD K w base v n l) (ty : TypeId) (ad : Addr) (a : α) (b : β)
 (hc : ∀ j u, (K.enc a)[j]? = some u -> w.cell? (ad.add j) = some u) (hD : K.D w a b) (hf : farFrom (K.ptrs a) v.ownBlock) (hn : n < 1000000) (hbase : base <= w.heap.size) :
 ∃ v' w', (Builtin.append_ #[t, t] ty #[v, .slice (some ad) 1 c]).run P w = .ok v' w' /\ ownD K w' base v' (n + 1) (l ++ [b]) /\ w.grownBy w' v.ownBlock /\ (v'.ownBlock = v.ownBlock ∨ v'.ownBlock = some w.heap.size) := by
 obtain ⟨az, h1, h2, h3⟩ := h
 obtain ⟨v', w', hr, g1, g2, _, g4⟩ := run_append_own_at (P := P) w base t ty K.e i z K.C bytes hP.ht hP.hi hP.hz hP.hs hP.hb hP.hzs K.pos v n _ h1 ad 1 c (K.enc a) (by rw [K.len]; omega) hc (K.one a) (by unfold maxLen; omega)
  (by have := hP.small; have h5 : (n + 1) * bytes <= 1000000 * 1000 := Nat.mul_le_mul qF this; omega) hbase
 have hrow : ∀ a' ∈ az ++ [a], farFrom (K.ptrs a') v.ownBlock := fun a' ha' => by
  rcases List.mem_append.1 ha' with hm | hm
  . exact h3 a' hm
  . simp at hm; subst hm; exact hf
 have hdeep : dAll (K.D w) (az ++ [a]) (l ++ [b]) := h2.snoc hD
 refine ⟨v', w', hr, ⟨az ++ [a], by rw [zc2, zl7]; exact g1, ?_, ?_⟩, g2, g4⟩
 . exact dAll.of_get hdeep.len fun j x y hx hy => by
    obtain ⟨y', hy', hr'⟩ := hdeep.get hx
    rw [hy] at hy'
    cases hy'
    exact K.kept hr' g2 (hrow x (qP hx))
 . intro a' ha' p hp hp0 ad' had'
   obtain ⟨j, hj⟩ := List.getElem?_of_mem ha'
   obtain ⟨y', hy', hr'⟩ := hdeep.get hj
   have hlt := K.lt hr' p hp hp0 ad' had'
   rcases g4 with e | e
   . rw [e]; exact hrow a' ha' p hp hp0 ad' had'
   . rw [e]; intro e2; injection e2 with e2; omega
variable (w : World) {ops : Array Oper} {rest : List Oper} {o : Oper} {a : Act} {Q : Exit -> Act -> World -> Prop}
theorem zaq (hg : o.guard = none) (s x : Operand) (hop : o.op = Op.call { callee := Callee.builtin Builtin.append, args := #[s, x], argTypes := #[t, t] })
 (hP : KinP P K t i z bytes) {base n c : Nat} {v : Value} {l : List β} (h : ownD K w base v n l) (ad : Addr) (el : α) (b : β)
 (hs : a.eval s = v) (hx : a.eval x = .slice (some ad) 1 c)
 (hc : ∀ j u, (K.enc el)[j]? = some u -> w.cell? (ad.add j) = some u) (hD : K.D w el b) (hf : farFrom (K.ptrs el) v.ownBlock) (hn : n < 1000000) (hbase : base <= w.heap.size)
 (hK : ∀ v' w', ownD K w' base v' (n + 1) (l ++ [b]) -> w.grownBy w' v.ownBlock -> (v'.ownBlock = v.ownBlock ∨ v'.ownBlock = some w.heap.size) -> wpList P ops Q rest (a.put o.dst v') w') : wpList P ops Q (o :: rest) a w := by
 refine wpList_plain hg fun K' hK' => ?_
 obtain ⟨v', w', hr, h2, h3, h4⟩ := zfo hP w h o.type ad el b hc hD hf hn hbase (c := c)
 unfold Oper.wp execOp
 simp only [hop, resolve, invoke, builtin, Sem.run_bind, Sem.run_pure, Result.andThen_ok, List.map_toArray, List.map_cons, List.map_nil, hs, hx, hr]
 exact hK' _ _ (hK v' w' h2 h3 h4)
theorem za3 {K' : Act -> World -> Prop} {E : Prop} (hg : o.guard = none) (s x : Operand) (hop : o.op = Op.call { callee := Callee.builtin Builtin.append, args := #[s, x], argTypes := #[t, t] })
 (hP : KinP P K t i z bytes) {base n c : Nat} {v : Value} {l : List β} (h : ownD K w base v n l) (ad : Addr) (el : α) (b : β)
 (hs : a.eval s = v) (hx : a.eval x = .slice (some ad) 1 c)
 (hc : ∀ j u, (K.enc el)[j]? = some u -> w.cell? (ad.add j) = some u) (hD : K.D w el b) (hf : farFrom (K.ptrs el) v.ownBlock) (hn : n < 1000000) (hbase : base <= w.heap.size)
 (hK : ∀ v' w', ownD K w' base v' (n + 1) (l ++ [b]) -> w.grownBy w' v.ownBlock -> (v'.ownBlock = v.ownBlock ∨ v'.ownBlock = some w.heap.size) -> K' (a.put o.dst v') w') :
 if Region.wanted o (yielded ops a.tmps) = true then Oper.wp P o a w K' Q else E := by
 have hw : Region.wanted o (yielded ops a.tmps) = true := by simp [Region.wanted, hg]
 rw [if_pos hw]
 obtain ⟨v', w', hr, h2, h3, h4⟩ := zfo hP w h o.type ad el b hc hD hf hn hbase (c := c)
 unfold Oper.wp execOp
 simp only [hop, resolve, invoke, builtin, Sem.run_bind, Sem.run_pure, Result.andThen_ok, List.map_toArray, List.map_cons, List.map_nil, hs, hx, hr]
 exact hK v' w' h2 h3 h4
end
theorem zb3 {w1 : World} {v : Value} {A : Option Addr} {n : Nat} (hv : ∀ k, v.ownBlock = some k -> k < w1.heap.size) (hA : ∀ a, A = some a -> w1.heap.size <= a.block) : farFrom [(A, n)] v.ownBlock := by
 intro p hp _ ad had e
 simp at hp
 subst hp
 have h1 := hA ad had
 have h2 := hv _ e.symm
 omega
theorem zh3 {B : Nat} {v : Value} {A : Option Addr} {n : Nat} (hv : ∀ k, v.ownBlock = some k -> B <= k) (hA : 0 < n -> ∀ a, A = some a -> a.block < B) : farFrom [(A, n)] v.ownBlock := by
 intro p hp h0 ad had e
 simp at hp
 subst hp
 have h1 := hA h0 ad had
 have h2 := hv _ e.symm
 omega
def kVal : Kin Val Val where
 enc := encVal
 C := 3
 e := 46
 ptrs := fun _ => []
 D := fun _ a b => a = b
 len := za4
 pos := by omega
 one := one1_Val
 later := fun h _ => h
 kept := fun h _ _ => h
 lt := fun _ p hp => by cases hp
def kInt : Kin Int Int where
 enc := encInt
 C := 1
 e := 3
 ptrs := fun _ => []
 D := fun _ a b => a = b
 len := zex
 pos := by omega
 one := fun x u hu => by simp [encInt] at hu; subst hu; rfl
 later := fun h _ => h
 kept := fun h _ _ => h
 lt := fun _ p hp => by cases hp
theorem zdz {α : Type} : ∀ {l m : List α} (_ : dAll (fun a b => a = b) l m), l = m
 | [], [], _ => rfl
 | a :: l, b :: m, h => by rw [h.1, zdz h.2]
theorem zbg {α : Type} : ∀ (l : List α), dAll (fun a b => a = b) l l
 | [] => trivial
 | a :: l => ⟨rfl, zbg l⟩
theorem zb4 {w : World} {A : Option Addr} {n : Nat} {l : List Val} : rD kVal w A n l ↔ rVal w A n l :=
 ⟨fun ⟨az, h1, h2⟩ => by have e : az = l := zdz h2; subst e; exact h1, fun h => ⟨l, h, zbg l⟩⟩
theorem zgl {w : World} {A : Option Addr} {n : Nat} {l : List Int} : rD kInt w A n l ↔ rInt w A n l :=
 ⟨fun ⟨az, h1, h2⟩ => by have e : az = l := zdz h2; subst e; exact h1, fun h => ⟨l, h, zbg l⟩⟩
def kEnt : Kin Ent (List Val × Int) where
 enc := encEnt
 C := 2
 e := 65
 ptrs := fun a => [(a.rA, a.rN)]
 D := dEnt
 len := za5
 pos := by omega
 one := zfn
 later := fun h hb => h.later hb
 kept := fun {w w' row a b} h hg hf => ⟨Fl.kept h.1 hg fun h0 ad e => hf _ (List.mem_cons_self ..) h0 ad e, h.2⟩
 lt := fun {w a b} h p hp h0 ad e => by
  simp at hp
  subst hp
  obtain ⟨b', off, e', hl⟩ := Fl.lt h.1 qF h0
  have e3 := (show a.rA = some ad from e).symm.trans e'
  cases e3
  exact hl
def encPart (x : Option Addr × Nat × Nat) : List Value := [.slice x.1 x.2.1 x.2.2]
def held (w : World) (a : Addr) : Value := (w.cell? a).getD undef
theorem zbt {w : World} {a : Addr} {u : Value} (h : w.cell? a = some u) : w.cell? a = some (held w a) := by unfold held; rw [h]; rfl
theorem zhg {w w' : World} {a : Addr} (h : w.cell? a = some (held w a)) (hb : Below w.heap.size w w') : w'.cell? a = some (held w' a) := zbt (qM hb h)
theorem zfl {w : World} {a p : Addr} {v : Value} (h : w.cell? a = some (held w a)) : (w.setCell p v).cell? a = some (held (w.setCell p v) a) := by
 obtain ⟨v', hv⟩ := cell?_setCell_some (w := w) (p := p) (x := v) (q := a) (v := held w a) h
 exact zbt hv
theorem zev {w w' : World} {a b c : Nat} {x y z : Value} (h : Below w.heap.size w w') {g : Nat} (hg : w.heap.size <= g) :
 Below w.heap.size w (((w'.setCell ⟨g, a, none⟩ x).setCell ⟨g, b, none⟩ y).setCell ⟨g, c, none⟩ z) := ((h.setCell (p := ⟨g, a, none⟩) hg _).setCell (p := ⟨g, b, none⟩) hg _).setCell (p := ⟨g, c, none⟩) hg _
theorem zn8 {w : World} {q : Addr} {a b c g : Nat} {x y z : Value} (h : q.block ≠ g) : (((w.setCell ⟨g, a, none⟩ x).setCell ⟨g, b, none⟩ y).setCell ⟨g, c, none⟩ z).cell? q = w.cell? q := by
 have hne : ∀ o, (⟨g, o, none⟩ : Addr) ≠ q := fun o e => h (by rw [<- e])
 rw [World.cell?_setCell_other (h := hne c), World.cell?_setCell_other (h := hne b), World.cell?_setCell_other (h := hne a)]
theorem zic {w w' : World} {base e size n : Nat} {v : Value} {xs : List Value} (h : w.ownsRow base e size v n xs) (hb : Below w.heap.size w w') : w'.ownsRow base e size v n xs := by
 refine h.kept (row := none) ⟨hb.os, hb.tape, hb.output, hb.size, fun k hk _ => hb.block k hk⟩ ?_
 cases hv : v.ownBlock
 . exact .inl rfl
 . exact .inr qH
theorem zap {B : Nat} {w w' : World} (h : Below B w.drew w') : Below B w w' := ⟨h.os, h.tape, h.output, h.size, h.block⟩
theorem zaf {w0 w w' : World} {v : Value} (hB : Below w0.heap.size w0 w) (hg : w.grownBy w' v.ownBlock) (hv : ∀ k, v.ownBlock = some k -> w0.heap.size <= k) : Below w0.heap.size w0 w' :=
 hB.trans (za9 hg hB.size fun k e => hv k e)
theorem zif {w : World} {A : Option Addr} {n : Nat} {l : List Val} (h : rVal w A n l) (h0 : 0 < n) (a : Addr) (e : A = some a) : a.block < w.heap.size := by
 obtain ⟨b, off, e2, hl⟩ := Fl.lt h qF h0
 rw [e2] at e
 cases e
 exact hl
section
variable {α β : Type} {K : Kin α β} {P : Program} {t : TypeId} {i : TypeInfo} {z : Value} {bytes : Nat}
theorem zgz (w : World) {e : TypeId} (ht : P.underlying t = some (.slice e)) (hi : P.info? e = some i) (ty : TypeId) (c : Nat) : (Builtin.append_ #[t, t] ty #[.slice none 0 0, .slice none 0 c]).run P w = .ok (.slice none 0 0) w := by
 simp [Builtin.append_, run_underlying ht, sizeOf, typeInfo, hi, Builtin.lenOf, Builtin.firstCells]
theorem zgp (hP : KinP P K t i z bytes) (w : World) {A : Option Addr} {n c : Nat} {l : List β} (h : rD K w A n l) (ty : TypeId) (hn : n < 1000000) :
 ∃ v' w', (Builtin.append_ #[t, t] ty #[.slice none 0 0, .slice A n c]).run P w = .ok v' w' /\ ownD K w' w.heap.size v' n l /\ w.grownBy w' none := by
 obtain ⟨az, h1, h2⟩ := h
 cases A with
 | none =>
   have hn0 : n = 0 := by
    rcases Nat.eq_zero_or_pos n with h0 | h0
    . exact h0
    . obtain ⟨b, off, e, _⟩ := h1.2 h0
      cases e
   subst hn0
   have hl : az = [] := List.eq_nil_of_length_eq_zero (by have := h1.count K.len K.pos; omega)
   subst hl
   have hl2 : l = [] := List.eq_nil_of_length_eq_zero (by have := h2.len; simpa using this.symm)
   subst hl2
   exact ⟨_, _, zgz w hP.ht hP.hi ty c, ownD.nil _ _, World.grownBy.refl w _⟩
 | some ad =>
   obtain ⟨v', w', hr, g1, g2, _, g4⟩ := run_append_own_at (P := P) w w.heap.size t ty K.e i z K.C bytes hP.ht hP.hi hP.hz hP.hs hP.hb hP.hzs K.pos (.slice none 0 0) 0 [] (World.ownsRow_nil w _ _ _) ad n c (flat K.enc az) h1.1 h1.news
    (fun u hu => by obtain ⟨x, _, hx⟩ := List.mem_flatMap.1 hu; exact K.one x u hx) (by unfold maxLen; omega)
    (by have := hP.small; have h5 : (0 + n) * bytes <= 1000000 * 1000 := Nat.mul_le_mul qF this; omega) (qV _)
   rw [Nat.zero_add, List.nil_append] at g1
   refine ⟨v', w', hr, ⟨az, g1, ?_, ?_⟩, g2⟩
   . exact dAll.of_get h2.len fun j x y hx hy => by
      obtain ⟨y', hy', hr'⟩ := h2.get hx
      rw [hy] at hy'
      cases hy'
      exact K.kept hr' g2 (fun p _ _ ad' _ => by simp [Value.ownBlock])
   . intro a' ha' p hp hp0 ad' had'
     obtain ⟨j, hj⟩ := List.getElem?_of_mem ha'
     obtain ⟨y', hy', hr'⟩ := h2.get hj
     have hlt := K.lt hr' p hp hp0 ad' had'
     rcases g4 with e | e
     . rw [e]; simp [Value.ownBlock]
     . rw [e]; intro e2; injection e2 with e2; omega
variable (w : World) {ops : Array Oper} {rest : List Oper} {o : Oper} {a : Act} {Q : Exit -> Act -> World -> Prop}
theorem zg1 (hg : o.guard = none) (s x : Operand) (hop : o.op = Op.call { callee := Callee.builtin Builtin.append, args := #[s, x], argTypes := #[t, t] })
 (hP : KinP P K t i z bytes) {A : Option Addr} {n c : Nat} {l : List β} (h : rD K w A n l) (hs : a.eval s = .slice none 0 0) (hx : a.eval x = .slice A n c) (hn : n < 1000000)
 (hK : ∀ v' w', ownD K w' w.heap.size v' n l -> w.grownBy w' none -> wpList P ops Q rest (a.put o.dst v') w') : wpList P ops Q (o :: rest) a w := by
 refine wpList_plain hg fun K' hK' => ?_
 obtain ⟨v', w', hr, h2, h3⟩ := zgp hP w h o.type hn (c := c)
 unfold Oper.wp execOp
 simp only [hop, resolve, invoke, builtin, Sem.run_bind, Sem.run_pure, Result.andThen_ok, List.map_toArray, List.map_cons, List.map_nil, hs, hx, hr]
 exact hK' _ _ (hK v' w' h2 h3)
theorem zjo {K' : Act -> World -> Prop} {E : Prop} (hg : o.guard = none) (s x : Operand) (hop : o.op = Op.call { callee := Callee.builtin Builtin.append, args := #[s, x], argTypes := #[t, t] })
 (hP : KinP P K t i z bytes) {A : Option Addr} {n c : Nat} {l : List β} (h : rD K w A n l) (hs : a.eval s = .slice none 0 0) (hx : a.eval x = .slice A n c) (hn : n < 1000000)
 (hK : ∀ v' w', ownD K w' w.heap.size v' n l -> w.grownBy w' none -> K' (a.put o.dst v') w') :
 if Region.wanted o (yielded ops a.tmps) = true then Oper.wp P o a w K' Q else E := by
 have hw : Region.wanted o (yielded ops a.tmps) = true := by simp [Region.wanted, hg]
 rw [if_pos hw]
 obtain ⟨v', w', hr, h2, h3⟩ := zgp hP w h o.type hn (c := c)
 unfold Oper.wp execOp
 simp only [hop, resolve, invoke, builtin, Sem.run_bind, Sem.run_pure, Result.andThen_ok, List.map_toArray, List.map_cons, List.map_nil, hs, hx, hr]
 exact hK v' w' h2 h3
end
theorem zcr {w w' : World} (hg : w.grownBy w' none) : Below w.heap.size w w' := za9 hg (qV _) (fun k h => by cases h)
def kEntF (B : Nat) : Kin Ent (List Val × Int) where
 enc := encEnt
 C := 2
 e := 65
 ptrs := fun a => [(a.rA, a.rN)]
 D := fun w e x => dEnt w e x /\ (0 < e.rN -> ∀ a, e.rA = some a -> B <= a.block)
 len := za5
 pos := by omega
 one := zfn
 later := fun h hb => ⟨h.1.later hb, h.2⟩
 kept := fun h hg hf => ⟨kEnt.kept h.1 hg hf, h.2⟩
 lt := fun h => kEnt.lt h.1
def rTabF (w : World) (B : Nat) (A : Option Addr) (n : Nat) (t : Tab) : Prop := rD (kEntF B) w A n t /\ (0 < n -> ∀ a, A = some a -> B <= a.block)
theorem rTabF.tab {w : World} {B : Nat} {A : Option Addr} {n : Nat} {t : Tab} (h : rTabF w B A n t) : rTab w A n t := by
 obtain ⟨⟨es, h1, h2⟩, _⟩ := h
 exact ⟨es, h1, h2.imp fun _ _ h => h.1⟩
theorem rTabF.mono {w : World} {B B' : Nat} {A : Option Addr} {n : Nat} {t : Tab} (h : rTabF w B A n t) (hB : B' <= B) : rTabF w B' A n t := by
 obtain ⟨⟨es, h1, h2⟩, h3⟩ := h
 exact ⟨⟨es, h1, h2.imp fun _ _ h => ⟨h.1, fun h0 a e => qR hB (h.2 h0 a e)⟩⟩, fun h0 a e => qR hB (h3 h0 a e)⟩
theorem rTabF.later {w w' : World} {B : Nat} {A : Option Addr} {n : Nat} {t : Tab} (h : rTabF w B A n t) (hb : Below w.heap.size w w') : rTabF w' B A n t := ⟨rD.later h.1 hb, h.2⟩
theorem Fl.from {w w' : World} {B C : Nat} {A : Option Addr} {n : Nat} {xs : List Value} (h : Fl w C A n xs) (hA : 0 < n -> ∀ a, A = some a -> B <= a.block) (hs : ∀ b, B <= b -> b < w.heap.size -> w'.heap[b]? = w.heap[b]?) : Fl w' C A n xs :=
 ⟨h.1, fun hn => by
  obtain ⟨b, off, e, hc⟩ := h.2 hn
  refine ⟨b, off, e, fun j u hx => ?_⟩
  have hcj := hc j u hx
  rw [World.cell?_of_block (w := w) (hs b (hA hn _ e) (qX _ _ hcj))]
  exact hcj⟩
theorem rTabF.other {w w' : World} {B : Nat} {A : Option Addr} {n : Nat} {t : Tab} (h : rTabF w B A n t) (hs : ∀ b, B <= b -> b < w.heap.size -> w'.heap[b]? = w.heap[b]?) : rTabF w' B A n t := by
 obtain ⟨⟨es, h1, h2⟩, h3⟩ := h
 exact ⟨⟨es, h1.from h3 hs, h2.imp fun _ _ h => ⟨⟨Fl.from h.1.1 h.2 hs, h.1.2⟩, h.2⟩⟩, h3⟩
end
end Go.Proofs.YthcalfeoejdcgaaGreatDoor
