/- Paths in boxes of their own, as a law's walk lays one after the other. -/
import Derived.Test.YtncagcbdgimpfaaDoorT15Join
import Derived.Test.YtncagcbdgimpfaaDoorP15b
namespace Go.Proofs.YtncagcbdgimpfaaDoor
open Go.RowKit Go.Sac Go.Shelf
set_option linter.unusedVariables false
set_option linter.unusedSimpArgs false

structure PBox where
  g : Nat
  b : Bool
  A : Option Addr
  X : List ByteArray
  c : Nat
def PBox.val (x : PBox) : Value := .agg #[.bool x.b, .slice x.A x.X.length x.c]
structure PBox.at_ (x : PBox) (W : World) : Prop where
  blk : Blk W x.g 25 [.bool x.b, .slice x.A x.X.length x.c]
  rc : Rc W x.A (svs x.X)
  cap : x.X.length ≤ x.c
structure Boxes (w W : World) (L : List PBox) : Prop where
  bel : Below w.heap.size w W
  all : ∀ (i : Nat) (x : PBox), L[i]? = some x → x.at_ W
theorem PBox.at_.below {x : PBox} {W W' : World} (h : x.at_ W) (k : Below W.heap.size W W') : x.at_ W' := ⟨h.blk.below k h.blk.lt, h.rc.below k, h.cap⟩
theorem Boxes.none (w : World) : Boxes w w [] := ⟨Below.refl _ _, nofun⟩
theorem Boxes.call {w W W' : World} {L : List PBox} (h : Boxes w W L) (k : Below W.heap.size W W') : Boxes w W' L := ⟨below_then h.bel h.bel.size k, fun i x hx => (h.all i x hx).below k⟩
theorem Boxes.push {w W : World} {L : List PBox} (h : Boxes w W L) (b : Bool) {A : Option Addr} {X : List ByteArray} {c : Nat} (hr : Rc W A (svs X)) (hc : X.length ≤ c) :
    Boxes w (W.alloc (.cells #[.bool b, .slice A X.length c] 25)) (⟨W.heap.size, b, A, X, c⟩ :: L) := by
  have k : Below W.heap.size W (W.alloc (.cells #[.bool b, .slice A X.length c] 25)) := (Below.refl _ W).alloc (Nat.le_refl _) _
  refine ⟨(h.call k).bel, fun i x hx => ?_⟩
  rcases i with _ | i
  · injection hx with hx; subst hx
    exact ⟨Blk.new W 25 [.bool b, .slice A X.length c], hr.below k, hc⟩
  · exact (h.all i x hx).below k
theorem box_load {ops : Array Oper} {rest : List Oper} {o : Oper} {a : Act} {w W : World} {Q : Exit → Act → World → Prop} {L : List PBox} (HS : Hd (Boxes w W L)) (i : Nat) (x : PBox) (hi : L[i]? = some x)
    (hw : Region.wanted o (yielded ops a.tmps) = true) (y : Operand) (ho : o.op = .load 25 y) (hx : a.eval y = .pointer (some ⟨x.g, 0, none⟩))
    (h : wpList Tryd.prog ops Q rest (a.put o.dst (.agg #[.bool x.b, .slice x.A x.X.length x.c])) W) : wpList Tryd.prog ops Q (o :: rest) a W :=
  wpList_load_row_w hw 25 y ho x.g hx 25 #[.bool x.b, .slice x.A x.X.length x.c] (0, 0) _ ((HS.out.all i x hi).blk) Tryd.underlying25 rfl (info_path.trans (by simp)) h
theorem err_no {l : List UInt8} (h : okL l = false) : absR l = false ∧ errR l = 11 ∧ namesL l = [] := ⟨by unfold absR; rw [h]; rfl, by unfold errR; rw [h]; rfl, by unfold namesL; rw [h]; rfl⟩
/-- Parse of a text, its answer named -/
def ParseIs (s : ByteArray) (b : Bool) (X : List ByteArray) (e : Int) : Prop := ∀ w, Calls Tryd.prog 11 #[.string s] w (RetPE b X e w)
theorem parse_is (s : ByteArray) (l : List UInt8) (hl : s.data.toList = l) (hs : s.size ≤ 1000) {b : Bool} {X : List ByteArray} {e : Int} (h : absR l = b ∧ errR l = e ∧ namesL l = X) : Hd (ParseIs s b X e) := ⟨fun w => by
  obtain ⟨h1, h2, h3⟩ := h
  have := parse_calls s w (by omega)
  rwa [hl, h1, h2, h3] at this⟩
theorem join_f (b1 : Bool) (A1 A2 : Option Addr) (n1 c1 n2 c2 : Nat) (xs ys zs : List ByteArray) (w : World) (hz : zs = xs ++ ys) (hx : Rc w A1 (svs xs)) (hy : Rc w A2 (svs ys)) (e1 : n1 = xs.length) (e2 : n2 = ys.length) (hn : (xs.length + ys.length) * 16 ≤ 140737488355328) :
    Calls Tryd.prog 17 #[.agg #[.bool b1, .slice A1 n1 c1], .agg #[.bool false, .slice A2 n2 c2]] w fun e w' => RetPath b1 zs w e w' := by
  subst hz
  have := join_calls b1 false A1 A2 n1 c1 n2 c2 xs ys w hx hy e1 e2 hn
  rwa [Bool.false_or, if_neg (by simp)] at this
theorem join_t (b1 : Bool) (A1 A2 : Option Addr) (n1 c1 n2 c2 : Nat) (xs ys : List ByteArray) (w : World) (hx : Rc w A1 (svs xs)) (hy : Rc w A2 (svs ys)) (e1 : n1 = xs.length) (e2 : n2 = ys.length) (hn : (xs.length + ys.length) * 16 ≤ 140737488355328) :
    Calls Tryd.prog 17 #[.agg #[.bool b1, .slice A1 n1 c1], .agg #[.bool true, .slice A2 n2 c2]] w fun e w' => RetPath true ys w e w' := by
  have := join_calls b1 true A1 A2 n1 c1 n2 c2 xs ys w hx hy e1 e2 hn
  rwa [Bool.true_or, if_pos rfl] at this
end Go.Proofs.YtncagcbdgimpfaaDoor
