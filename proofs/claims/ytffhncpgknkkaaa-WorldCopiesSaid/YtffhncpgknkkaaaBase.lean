/-
  BASE: words for the walks of all seats: what an address reads, what a call owns, appends, stores. No program in it.
-/
import Derived.WalkKit
import Derived.WalkSpells
import Derived.WalkLawsBesides
import Derived.Lib.Hide
import Derived.Maps.AppendAt
import Derived.Deep.LoopGhost
import Derived.Deep.OwnRows
import Derived.Deep.QuietTactic
import Derived.BigQuiet
import Derived.Laws.MakeOwn
import Derived.Laws.OwnMore
import Derived.KernelRfl
namespace Go.Sac
open Go.RowKit
set_option linter.unusedVariables false
set_option linter.unusedSimpArgs false

/-- A fact that the walk's simp doesn't look into. -/
structure Hd (p : Prop) : Prop where mk :: (out : p)

def u8v (b : UInt8) : Value := .int .u8 (b.toNat : Int)
def i64v (n : Int) : Value := .int .i64 n
abbrev bs (l : List UInt8) : List Value := l.map u8v
abbrev ns (l : List Int) : List Value := l.map i64v

theorem bs_at {l : List UInt8} {i : Nat} (h : i < l.length) : (bs l)[i]? = some (.int .u8 (l[i].toNat : Int)) := by
  simp [bs, u8v, List.getElem?_map, List.getElem?_eq_getElem h]
theorem ns_at {l : List Int} {i : Nat} (h : i < l.length) : (ns l)[i]? = some (.int .i64 l[i]) := by
  simp [ns, i64v, List.getElem?_map, List.getElem?_eq_getElem h]
theorem bs_len (l : List UInt8) : (bs l).length = l.length := by simp [bs]
theorem ns_len (l : List Int) : (ns l).length = l.length := by simp [ns]
theorem bs_one {l : List UInt8} : ∀ u ∈ bs l, u.oneCell' = true := by
  intro u hu; simp only [bs, List.mem_map] at hu; obtain ⟨q, _, rfl⟩ := hu; rfl
theorem ns_one {l : List Int} : ∀ u ∈ ns l, u.oneCell' = true := by
  intro u hu; simp only [ns, List.mem_map] at hu; obtain ⟨q, _, rfl⟩ := hu; rfl

/-- From this address on these cells are read. -/
def Rc (w : World) (A : Option Addr) (cs : List Value) : Prop :=
  ∀ i u, cs[i]? = some u → ∃ b off, A = some ⟨b, off, none⟩ ∧ w.cell? ⟨b, off + i, none⟩ = some u

theorem Rc.nil (w : World) (A : Option Addr) : Rc w A [] := by intro i u h; simp at h
theorem Rc.form {w : World} {A : Option Addr} {cs : List Value} (h : Rc w A cs) (h0 : 0 < cs.length) :
    ∃ b off, A = some ⟨b, off, none⟩ ∧ b < w.heap.size ∧ ∀ i u, cs[i]? = some u → w.cell? ⟨b, off + i, none⟩ = some u := by
  obtain ⟨b, off, e, hc⟩ := h 0 cs[0] (List.getElem?_eq_getElem h0)
  refine ⟨b, off, e, World.block_lt_of_cell? w _ hc, fun i u hu => ?_⟩
  obtain ⟨b', off', e', hc'⟩ := h i u hu
  rw [e] at e'
  injection e' with e'
  injection e' with e1 e2
  subst e1; subst e2
  exact hc'
theorem Rc.mk {w : World} {b off : Nat} {cs : List Value} (h : ∀ i u, cs[i]? = some u → w.cell? ⟨b, off + i, none⟩ = some u) : Rc w (some ⟨b, off, none⟩) cs :=
  fun i u hu => ⟨b, off, rfl, h i u hu⟩
theorem Rc.keep {w w' : World} {A : Option Addr} {cs : List Value} (h : Rc w A cs) (hk : ∀ b off, A = some ⟨b, off, none⟩ → b < w.heap.size → w'.heap[b]? = w.heap[b]?) : Rc w' A cs := by
  intro i u hu
  obtain ⟨b, off, e, hc⟩ := h i u hu
  exact ⟨b, off, e, (World.cell?_of_block (hk b off e (World.block_lt_of_cell? w _ hc))).trans hc⟩
theorem Rc.below {w w' : World} {A : Option Addr} {cs : List Value} (h : Rc w A cs) (hb : Below w.heap.size w w') : Rc w' A cs :=
  h.keep fun b _ _ hlt => hb.block b hlt
theorem Rc.grown {w w' : World} {A : Option Addr} {cs : List Value} (h : Rc w A cs) {row : Option Nat} (hg : w.grownBy w' row) (hne : ∀ a, A = some a → some a.block ≠ row) : Rc w' A cs :=
  h.keep fun _ _ e hlt => hg.block _ hlt (hne _ e)
theorem Rc.alloc {w : World} {A : Option Addr} {cs : List Value} (h : Rc w A cs) (o : Obj) : Rc (w.alloc o) A cs := h.below ((Below.refl _ _).alloc (Nat.le_refl _) o)
theorem Rc.drew {w : World} {A : Option Addr} {cs : List Value} (h : Rc w A cs) : Rc w.drew A cs := h.below ((Below.refl _ _).drew)
theorem Rc.take {w : World} {A : Option Addr} {cs : List Value} (h : Rc w A cs) (n : Nat) : Rc w A (cs.take n) := by
  intro i u hu
  rw [List.getElem?_take] at hu
  split at hu
  · exact h i u hu
  · cases hu
theorem Rc.drop {w : World} {b off : Nat} {cs : List Value} (h : Rc w (some ⟨b, off, none⟩) cs) (n : Nat) : Rc w (some ⟨b, off + n, none⟩) (cs.drop n) := by
  intro i u hu
  rw [List.getElem?_drop] at hu
  obtain ⟨b', off', e, hc⟩ := h _ u hu
  injection e with e
  injection e with e1 e2
  subst e1; subst e2
  exact ⟨_, _, rfl, by rw [Nat.add_assoc]; exact hc⟩
theorem Rc.app {w : World} {A : Option Addr} {cs ds : List Value} (h : Rc w A (cs ++ ds)) : Rc w A cs := by
  have := h.take cs.length
  rwa [List.take_left] at this

/-- A slice's own row: what is read of it. -/
theorem own_rc {w : World} {base : Nat} {e : TypeId} {size n : Nat} {v : Value} {xs : List Value} (h : w.ownsRow base e size v n xs) :
    ∃ A c, v = .slice A n c ∧ n ≤ c ∧ Rc w A xs ∧ (∀ a, A = some a → base ≤ a.block ∧ a.block < w.heap.size) := by
  rcases h.2 with ⟨rfl, rfl⟩ | ⟨g, cap, cur, rfl, hb, hg, hnc, _⟩
  · have : xs = [] := List.eq_nil_of_length_eq_zero (by have := h.1; omega)
    subst this
    exact ⟨none, 0, rfl, Nat.le_refl _, Rc.nil _ _, fun a ha => by cases ha⟩
  · refine ⟨_, cap, rfl, hnc, fun i u hu => ⟨g, 0, rfl, ?_⟩, fun a ha => ?_⟩
    · have := h.cells (g := g) rfl i u hu
      have ha : (⟨g, 0, none⟩ : Addr).add i = ⟨g, 0 + i, none⟩ := by unfold Addr.add; split <;> simp_all
      rwa [ha] at this
    · injection ha with ha
      subst ha
      exact ⟨hb, (Array.getElem?_eq_some_iff.1 hg).1⟩
theorem own_lt {w : World} {base : Nat} {e : TypeId} {size n : Nat} {v : Value} {xs : List Value} (h : w.ownsRow base e size v n xs) (k : Nat) (hk : v.ownBlock = some k) : base ≤ k ∧ k < w.heap.size := h.lt k hk
theorem own_below {w w1 : World} {base : Nat} {e : TypeId} {size n : Nat} {v : Value} {xs : List Value} (h : w.ownsRow base e size v n xs) (hb : Below w.heap.size w w1) : w1.ownsRow base e size v n xs :=
  h.kept (row := none) ⟨hb.os, hb.tape, hb.output, hb.size, fun i hi _ => hb.block i hi⟩ (by cases v.ownBlock <;> simp)
theorem own_lower {w : World} {b b' : Nat} {e : TypeId} {size n : Nat} {v : Value} {xs : List Value} (h : w.ownsRow b e size v n xs) (hb : b' ≤ b) : w.ownsRow b' e size v n xs := by
  refine ⟨h.1, ?_⟩
  rcases h.2 with h' | ⟨g, cap, cur, rfl, hg, r⟩
  · exact .inl h'
  · exact .inr ⟨g, cap, cur, rfl, by omega, r⟩
theorem own_cap {w : World} {base : Nat} {e : TypeId} {size n : Nat} {v : Value} {xs : List Value} (h : w.ownsRow base e size v n xs) : n ≤ 9223372036854775807 := by
  rcases h.2 with ⟨_, h1⟩ | ⟨g', cap', cur, he, _, _, h1, h2, _⟩
  · omega
  · simp only [maxLen] at h2; omega

theorem below_then {B : Nat} {w w1 w2 : World} (h : Below B w w1) (hB : B ≤ w1.heap.size) (k : Below w1.heap.size w1 w2) : Below B w w2 :=
  h.trans (k.mono hB)
theorem below_lift {B : Nat} {w w1 w2 : World} (h : Below B w w1) (hB : B ≤ w1.heap.size) {row : Option Nat} (k : w1.grownBy w2 row) (hr : ∀ b, row = some b → B ≤ b) : Below B w w2 := h.grown k hB hr

/-- append(v, ys...): v a row of the call's own, ys any slice that is read -/
theorem run_append_rc {P : Program} (W : World) (base : Nat) (t ty e : TypeId) (z : Value) (size bytes : Nat)
    (ht : P.underlying t = some (.slice e)) (hinfo : (P.info? e).map (fun i => (i.zero, i.size, i.bytes)) = some (some z, size, bytes)) (hzs : z.cells.size = size) (hsz : 0 < size) (hb0 : 0 < bytes)
    (v : Value) (n : Nat) (xs ys : List Value) (A : Option Addr) (m c : Nat)
    (HO : W.ownsRow base e size v n xs) (HR : Rc W A ys) (hm : ys.length = m * size) (h1 : ∀ u ∈ ys, u.oneCell' = true) (hbase : base ≤ W.heap.size) (hl : (n + m) * bytes ≤ 140737488355328) :
    ∃ v1 w1, (Builtin.append_ #[t, t] ty #[v, .slice A m c]).run P W = .ok v1 w1 ∧ w1.ownsRow base e size v1 (n + m) (xs ++ ys) ∧ W.grownBy w1 v.ownBlock ∧ (v1.ownBlock = v.ownBlock ∨ v1.ownBlock = some W.heap.size) := by
  obtain ⟨i0, hi, hzz⟩ := Option.map_eq_some_iff.1 hinfo
  simp only [Prod.mk.injEq] at hzz
  obtain ⟨hz0, hz1, hz2⟩ := hzz
  have hlen : n + m ≤ 140737488355328 := Nat.le_trans (Nat.le_mul_of_pos_right _ hb0) hl
  rcases Nat.eq_zero_or_pos m with h0 | h0
  · subst h0
    obtain rfl : ys = [] := List.eq_nil_of_length_eq_zero (by omega)
    rcases A with _ | ad
    · refine ⟨v, W, ?_, by simpa using HO, World.grownBy.refl W _, .inl rfl⟩
      rcases HO.2 with ⟨rfl, hn⟩ | ⟨g, cap, cur, rfl, _, _, hnc, _⟩
      · subst hn; simp [Builtin.append_, run_underlying ht, sizeOf, typeInfo, hi, Builtin.lenOf, Builtin.firstCells]
      · simp [Builtin.append_, run_underlying ht, sizeOf, typeInfo, hi, Builtin.lenOf, Builtin.firstCells, hnc, storeCells]
    · obtain ⟨v1, w1, hr, h2, h3, _, h5⟩ := run_append_own_at (P := P) W base t ty e i0 z size bytes ht hi hz0 hz1 hz2 hzs hsz v n xs HO ad 0 c [] (by simp) (by simp) (by simp) (by simp only [maxLen]; omega) hl hbase
      exact ⟨v1, w1, hr, h2, h3, h5⟩
  · obtain ⟨b, off, rfl, _, hc⟩ := HR.form (by rw [hm]; exact Nat.mul_pos h0 hsz)
    obtain ⟨v1, w1, hr, h2, h3, _, h5⟩ := run_append_own_at (P := P) W base t ty e i0 z size bytes ht hi hz0 hz1 hz2 hzs hsz v n xs HO ⟨b, off, none⟩ m c ys hm
      (by intro j u hu; have ha : (⟨b, off, none⟩ : Addr).add j = ⟨b, off + j, none⟩ := by unfold Addr.add; split <;> simp_all
          rw [ha]; exact hc j u hu) h1 (by simp only [maxLen]; omega) hl hbase
    exact ⟨v1, w1, hr, h2, h3, h5⟩

section
variable {P : Program} {ops : Array Oper} {rest : List Oper} {o : Oper} {a : Act} {Q : Exit → Act → World → Prop}
theorem app_rc {W : World} (base : Nat) (t e : TypeId) (z : Value) (size bytes : Nat) (s x : Operand) (hgd : o.guard = none)
    (ho : o.op = .call { callee := .builtin .append, args := #[s, x], argTypes := #[t, t] })
    (ht : P.underlying t = some (.slice e)) (hinfo : (P.info? e).map (fun i => (i.zero, i.size, i.bytes)) = some (some z, size, bytes)) (hzs : z.cells.size = size) (hsz : 0 < size) (hb0 : 0 < bytes)
    (v : Value) (n : Nat) (xs ys : List Value) (A : Option Addr) (m c : Nat) (hs : a.eval s = v) (hx : a.eval x = .slice A m c)
    (HO : W.ownsRow base e size v n xs) (HR : Rc W A ys) (hm : ys.length = m * size) (h1 : ∀ u ∈ ys, u.oneCell' = true) (hbase : base ≤ W.heap.size) (hl : (n + m) * bytes ≤ 140737488355328) (n' : Nat) (cs' : List Value) (en : n + m = n') (ec : xs ++ ys = cs')
    (h : ∀ v1 w1, w1.ownsRow base e size v1 n' cs' → W.grownBy w1 v.ownBlock → (v1.ownBlock = v.ownBlock ∨ v1.ownBlock = some W.heap.size) → wpList P ops Q rest (a.put o.dst v1) w1) :
    wpList P ops Q (o :: rest) a W := by
  subst en; subst ec
  obtain ⟨v1, w1, hr, hown, hg, hat⟩ := run_append_rc (P := P) W base t o.type e z size bytes ht hinfo hzs hsz hb0 v n xs ys A m c HO HR hm h1 hbase hl
  refine wpList_plain hgd fun K hK => ?_
  unfold Oper.wp execOp
  simp only [ho, resolve, invoke, builtin, Sem.run_bind, Sem.run_pure, Result.andThen_ok, List.map_toArray, List.map_cons, List.map_nil, hs, hx, hr]
  exact hK _ _ (h v1 w1 hown hg hat)
end
/-! ### bits of bytes -/
theorem wrap_u8_small (n : Int) (h0 : 0 ≤ n) (h1 : n < 256) : IntKind.u8.wrap n = n := by rw [IntKind.wrap_u8]; omega
theorem u8_lt (a : UInt8) : (a.toNat : Int) < 256 := by have := a.toNat_lt; omega
theorem bits_or_u8 (a b : UInt8) : bits .or .u8 (a.toNat : Int) (b.toNat : Int) = ((a ||| b).toNat : Int) := by
  rw [(bits_nat .u8 8 (by decide) (fun n h0 h1 => wrap_u8_small n h0 (by omega)) a.toNat b.toNat a.toNat_lt b.toNat_lt).2, UInt8.toNat_or]
theorem bits_and_u8 (a b : UInt8) : bits .and .u8 (a.toNat : Int) (b.toNat : Int) = ((a &&& b).toNat : Int) := by
  rw [(bits_nat .u8 8 (by decide) (fun n h0 h1 => wrap_u8_small n h0 (by omega)) a.toNat b.toNat a.toNat_lt b.toNat_lt).1, UInt8.toNat_and]
theorem bits_xor_u8 (a b : UInt8) : bits .xor .u8 (a.toNat : Int) (b.toNat : Int) = ((a ^^^ b).toNat : Int) := by
  have hx : a.toNat ^^^ b.toNat < 2 ^ 8 := Nat.xor_lt_two_pow a.toNat_lt b.toNat_lt
  simp only [bits, BitVec.ofInt_natCast, BitVec.toNat_xor, BitVec.toNat_ofNat]
  have ha : a.toNat % 2 ^ IntKind.u8.bits = a.toNat := Nat.mod_eq_of_lt a.toNat_lt
  have hb : b.toNat % 2 ^ IntKind.u8.bits = b.toNat := Nat.mod_eq_of_lt b.toNat_lt
  rw [ha, hb, UInt8.toNat_xor]
  exact wrap_u8_small _ (by omega) (by omega)

/-! ### min and max of two whole numbers; make -/
@[go_sem] theorem max2_i (k k' : IntKind) (x y : Int) : Builtin.max2 (.int k x) (.int k' y) = pure (.int k (max x y)) := by
  simp only [Builtin.max2, gt_iff_lt]; congr 2; omega
@[go_sem] theorem min2_i (k k' : IntKind) (x y : Int) : Builtin.min2 (.int k x) (.int k' y) = pure (.int k (min x y)) := by
  simp only [Builtin.min2]; congr 2; omega
@[go_sem] theorem max_2 (ats : Array TypeId) (ty : TypeId) (a b : Value) : Builtin.max_ ats ty #[a, b] = (Builtin.max2 a b >>= fun s => pure s) := by simp only [Builtin.max_, List.foldlM_cons, List.foldlM_nil]
@[go_sem] theorem min_2 (ats : Array TypeId) (ty : TypeId) (a b : Value) : Builtin.min_ ats ty #[a, b] = (Builtin.min2 a b >>= fun s => pure s) := by simp only [Builtin.min_, List.foldlM_cons, List.foldlM_nil]

/-- So many noughts, behind a name. -/
def zeroRow (m : Nat) : Array Value := (bs (List.replicate m 0)).toArray
theorem run_make_u8 {P : Program} (t e : TypeId) (ht : P.underlying t = some (.slice e)) (hinfo : (P.info? e).map (fun i => (i.zero, i.size, i.bytes)) = some (some (.int .u8 0), 1, 1)) (m : Nat) (hn : m ≤ 281474976710656) :
    ∀ W : World, (Instr.makeSlice t (.int .i64 (m : Int)) (.int .i64 (m : Int))).run P W = .ok (.slice (some ⟨W.heap.size, 0, none⟩) m m) (W.alloc (.cells (zeroRow m) e)) := by
  intro W
  unfold zeroRow
  have h := run_make_row' t e (.int .u8 0) 1 ht hinfo rfl .i64 .i64 m (by omega) (by omega) W
  have hl : (madeCells #[Value.int .u8 0] m) = (bs (List.replicate m 0)).toArray := by
    apply Array.toList_inj.1
    apply List.ext_getElem
    · simp [bs, madeCells]
    · intro i h1 h2
      simp [bs, u8v, madeCells, Nat.mod_one]
  rw [← hl]; exact h

/-! ### what a call that makes one row hands back -/
/-- A new row of bytes. -/
def RetB (E : TypeId) (l : List UInt8) (w : World) (e : Ending) (w' : World) : Prop :=
  ∃ v, e = .returned v ∧ w'.ownsRow w.heap.size E 1 v l.length (bs l) ∧ Below w.heap.size w w'
theorem own_of_alloc (w : World) (B : Nat) (E : TypeId) (cs : List Value) (hB : B ≤ w.heap.size) (hl : cs.length ≤ 9223372036854775807) :
    (w.alloc (.cells cs.toArray E)).ownsRow B E 1 (.slice (some ⟨w.heap.size, 0, none⟩) cs.length cs.length) cs.length cs := by
  have h := World.ownsRow_lit (base := B) (e := E) (size := 1) w cs.toArray cs.length hB (by simpa [maxLen] using hl) (by simp)
  simpa using h
theorem RetB.alloc (w : World) (E : TypeId) (l : List UInt8) (n : Nat) (hn : n = l.length) (hl : l.length ≤ 9223372036854775807) :
    RetB E l w (.returned (.slice (some ⟨w.heap.size, 0, none⟩) n n)) (w.alloc (.cells (bs l).toArray E)) := by
  subst hn
  refine ⟨_, rfl, ?_, (Below.refl _ _).alloc (Nat.le_refl _) _⟩
  have := own_of_alloc w w.heap.size E (bs l) (Nat.le_refl _) (by rw [bs_len]; exact hl)
  simpa only [bs_len] using this
theorem RetB.nil (w w' : World) (E : TypeId) (hb : Below w.heap.size w w') : RetB E [] w (.returned (.slice none 0 0)) w' :=
  ⟨_, rfl, World.ownsRow_nil _ _ _ _, hb⟩

/-! ### a block of cells that is known whole -/
/-- Block g holds just these cells. -/
def Blk (w : World) (g : Nat) (E : TypeId) (cs : List Value) : Prop := w.heap[g]? = some (.cells cs.toArray E (0, 0))
theorem Blk.lt {w : World} {g : Nat} {E : TypeId} {cs : List Value} (h : Blk w g E cs) : g < w.heap.size := (Array.getElem?_eq_some_iff.1 h).1
theorem Blk.cell {w : World} {g : Nat} {E : TypeId} {cs : List Value} (h : Blk w g E cs) {i : Nat} {v : Value} (hi : cs[i]? = some v) : w.cell? ⟨g, i, none⟩ = some v := by
  rw [cell_of_row w g i _ E (0, 0) h]; simpa using hi
theorem Blk.frz {w : World} {g : Nat} {E : TypeId} {cs : List Value} (h : Blk w g E cs) (i : Nat) : w.frozen? ⟨g, i, none⟩ = false := by
  unfold Blk at h; simp [World.frozen?, h]
theorem Blk.set {w : World} {g : Nat} {E : TypeId} {cs : List Value} (h : Blk w g E cs) (i : Nat) (u : Value) : Blk (w.setCell ⟨g, i, none⟩ u) g E (cs.set i u) := by
  unfold Blk at h ⊢; simp [World.setCell, Array.getElem?_modify, h]
theorem Blk.far {w : World} {g : Nat} {E : TypeId} {cs : List Value} (h : Blk w g E cs) {p : Addr} (hp : g ≠ p.block) (u : Value) : Blk (w.setCell p u) g E cs := (Below.heap_setCell w p u g hp).trans h
theorem Blk.below {w w' : World} {B g : Nat} {E : TypeId} {cs : List Value} (h : Blk w g E cs) (hb : Below B w w') (hB : g < B) : Blk w' g E cs := (hb.block g hB).trans h
theorem Blk.grown {w w' : World} {g : Nat} {E : TypeId} {cs : List Value} (h : Blk w g E cs) {row : Option Nat} (hg : w.grownBy w' row) (hne : some g ≠ row) : Blk w' g E cs := (hg.block g h.lt hne).trans h
theorem Blk.alloc {w : World} {g : Nat} {E : TypeId} {cs : List Value} (h : Blk w g E cs) (o : Obj) : Blk (w.alloc o) g E cs := (Below.heap_alloc w o g h.lt).trans h
theorem Blk.drew {w : World} {g : Nat} {E : TypeId} {cs : List Value} (h : Blk w g E cs) : Blk w.drew g E cs := h
theorem Blk.new (w : World) (E : TypeId) (cs : List Value) : Blk (w.alloc (.cells cs.toArray E)) w.heap.size E cs := heap_alloc_new w _
theorem Blk.rc {w : World} {g : Nat} {E : TypeId} {cs : List Value} (h : Blk w g E cs) : Rc w (some ⟨g, 0, none⟩) cs :=
  Rc.mk fun i u hu => by rw [Nat.zero_add]; exact h.cell hu
theorem Blk.own {w : World} {g B : Nat} {E : TypeId} {cs : List Value} (h : Blk w g E cs) (hB : B ≤ g) (n : Nat) (hn : n = cs.length) (hl : cs.length ≤ 9223372036854775807) : w.ownsRow B E 1 (.slice (some ⟨g, 0, none⟩) n n) n cs := by
  subst hn
  exact ⟨by simp, .inr ⟨g, cs.length, cs.toArray, rfl, hB, h, Nat.le_refl _, by simpa [maxLen] using hl, by simp, by simp⟩⟩

/-! ### a row of rows of bytes that is read -/
def Rcc (w : World) (A : Option Addr) (ls : List (List UInt8)) : Prop :=
  ∃ vs : List Value, Rc w A vs ∧ vs.length = ls.length ∧ ∀ (i : Nat) (l : List UInt8), ls[i]? = some l → ∃ a c, vs[i]? = some (Value.slice a l.length c) ∧ l.length ≤ c ∧ Rc w a (bs l)
theorem Rcc.below {w w' : World} {A : Option Addr} {ls : List (List UInt8)} (h : Rcc w A ls) (hb : Below w.heap.size w w') : Rcc w' A ls := by
  obtain ⟨vs, h1, h2, h3⟩ := h
  exact ⟨vs, h1.below hb, h2, fun i l hl => let ⟨a, c, p, q, r⟩ := h3 i l hl; ⟨a, c, p, q, r.below hb⟩⟩
theorem Rcc.at {w : World} {A : Option Addr} {ls : List (List UInt8)} (h : Rcc w A ls) (i : Nat) (hi : i < ls.length) :
    ∃ b off a c, A = some ⟨b, off, none⟩ ∧ w.cell? ⟨b, off + i, none⟩ = some (.slice a ls[i].length c) ∧ ls[i].length ≤ c ∧ Rc w a (bs ls[i]) := by
  obtain ⟨vs, h1, h2, h3⟩ := h
  obtain ⟨a, c, p, q, r⟩ := h3 i _ (List.getElem?_eq_getElem hi)
  obtain ⟨b, off, e, hc⟩ := h1 i _ p
  exact ⟨b, off, a, c, e, hc, q, r⟩
theorem sum_take_le (ls : List (List UInt8)) (k : Nat) : (ls.take k).flatten.length ≤ ls.flatten.length := by
  have h := congrArg (fun l => l.flatten.length) (List.take_append_drop k ls)
  simp only [List.flatten_append, List.length_append] at h
  omega
theorem flat_snoc (ls : List (List UInt8)) (k : Nat) (h : k < ls.length) : (ls.take (k + 1)).flatten = (ls.take k).flatten ++ ls[k] := by
  rw [List.take_succ_eq_append_getElem h, List.flatten_append]; simp

/-! ### cuts of a slice; its bytes as a string -/
theorem addr_add (b off n : Nat) : (⟨b, off, none⟩ : Addr).add n = ⟨b, off + n, none⟩ := by unfold Addr.add; split <;> simp_all
theorem Rc.cut {w : World} {A : Option Addr} {cs : List Value} (h : Rc w A cs) (n : Nat) : Rc w (A.map (·.add n)) (cs.drop n) := by
  intro i u hu
  rw [List.getElem?_drop] at hu
  obtain ⟨b, off, e, hc⟩ := h _ u hu
  subst e
  exact ⟨b, off + n, by simp [addr_add], by rw [Nat.add_assoc]; exact hc⟩
/-- xs[m:], xs[:m], xs[l:m], one cell an element; A' is a letter -/
theorem cut_low {P : Program} (t e : TypeId) {bytes : Nat} {z : Value} (ht : P.underlying t = some (.slice e)) (hinfo : (P.info? e).map (fun i => (i.zero, i.size, i.bytes)) = some (some z, 1, bytes)) (A : Option Addr) (n c m : Nat) (hm : m ≤ n) (hc : n ≤ c) :
    ∃ A' : Option Addr, (∀ W : World, (Instr.slice t (.slice A n c) (some (.int .i64 (m : Int))) none none).run P W = .ok (.slice A' (n - m) (c - m)) W) ∧
      (∀ (w : World) (xs : List Value), xs.length = n → Rc w A xs → Rc w A' (xs.drop m)) ∧ (∀ a', A' = some a' → ∃ a, A = some a ∧ a.block = a'.block) := by
  obtain ⟨i, hi, hzz⟩ := Option.map_eq_some_iff.1 hinfo
  simp only [Prod.mk.injEq] at hzz
  obtain ⟨_, hsz, _⟩ := hzz
  refine ⟨if c = m then A else A.map (·.add m), fun W => ?_, fun w xs hl h => ?_, fun a' ha => ?_⟩
  · have hel : P.elem t = e := by simp [Program.elem, ht]
    have hu : P.underlying t = some (.slice (P.elem t)) := by rw [hel]; exact ht
    rw [run_slice_l W t A n c hu .i64 (m : Int) (Int.natCast_nonneg _) (by omega), hel]
    simp [sizeOf, typeInfo, hi, hsz, sliced, Result.andThen]
  · by_cases hcm : c = m
    · have : xs.drop m = [] := List.drop_eq_nil_of_le (by omega)
      rw [this]; exact Rc.nil _ _
    · rw [if_neg hcm]; exact h.cut m
  · split at ha
    · exact ⟨a', ha, rfl⟩
    · rcases A with _ | a
      · cases ha
      · refine ⟨a, rfl, ?_⟩
        simp at ha; subst ha
        unfold Addr.add; split <;> rfl
theorem cut_high {P : Program} (t e : TypeId) {bytes : Nat} {z : Value} (ht : P.underlying t = some (.slice e)) (hinfo : (P.info? e).map (fun i => (i.zero, i.size, i.bytes)) = some (some z, 1, bytes)) (A : Option Addr) (n c m : Nat) (hm : m ≤ c) :
    ∀ W : World, (Instr.slice t (.slice A n c) none (some (.int .i64 (m : Int))) none).run P W = .ok (.slice A m c) W := by
  obtain ⟨i, hi, hzz⟩ := Option.map_eq_some_iff.1 hinfo
  simp only [Prod.mk.injEq] at hzz
  obtain ⟨_, hsz, _⟩ := hzz
  intro W
  have hel : P.elem t = e := by simp [Program.elem, ht]
  have hu : P.underlying t = some (.slice (P.elem t)) := by rw [hel]; exact ht
  rw [run_slice_h W t A n c hu .i64 (m : Int) (Int.natCast_nonneg _) (by omega), hel]
  have hA : (A.map fun a => a.add 0) = A := by cases A <;> simp [Addr.add]
  simp [sizeOf, typeInfo, hi, hsz, sliced, Result.andThen, hA]
theorem cut_mid {P : Program} (t e : TypeId) {bytes : Nat} {z : Value} (ht : P.underlying t = some (.slice e)) (hinfo : (P.info? e).map (fun i => (i.zero, i.size, i.bytes)) = some (some z, 1, bytes)) (A : Option Addr) (n c l m : Nat) (hl : l ≤ m) (hm : m ≤ n) (hc : n ≤ c) :
    ∃ A' : Option Addr, (∀ W : World, (Instr.slice t (.slice A n c) (some (.int .i64 (l : Int))) (some (.int .i64 (m : Int))) none).run P W = .ok (.slice A' (m - l) (c - l)) W) ∧
      (∀ (w : World) (xs : List Value), xs.length = n → Rc w A xs → Rc w A' ((xs.take m).drop l)) ∧ (∀ a', A' = some a' → ∃ a, A = some a ∧ a.block = a'.block) := by
  obtain ⟨i, hi, hzz⟩ := Option.map_eq_some_iff.1 hinfo
  simp only [Prod.mk.injEq] at hzz
  obtain ⟨_, hsz, _⟩ := hzz
  refine ⟨if c = l then A else A.map (·.add l), fun W => ?_, fun w xs hx h => ?_, fun a' ha => ?_⟩
  · have hel : P.elem t = e := by simp [Program.elem, ht]
    have hu : P.underlying t = some (.slice (P.elem t)) := by rw [hel]; exact ht
    rw [run_slice_lh W t A n c hu .i64 .i64 (l : Int) (m : Int) (Int.natCast_nonneg _) (by omega) (by omega), hel]
    simp [sizeOf, typeInfo, hi, hsz, sliced, Result.andThen]
  · by_cases hcm : c = l
    · have : (xs.take m).drop l = [] := List.drop_eq_nil_of_le (by rw [List.length_take]; omega)
      rw [this]; exact Rc.nil _ _
    · rw [if_neg hcm]; exact (h.take m).cut l
  · split at ha
    · exact ⟨a', ha, rfl⟩
    · rcases A with _ | a
      · cases ha
      · refine ⟨a, rfl, ?_⟩
        simp at ha; subst ha
        unfold Addr.add; split <;> rfl
theorem strOfNums_bytes (l : List UInt8) : strOfNums (l.map fun b => (b.toNat : Int)) = ⟨l.toArray⟩ := by
  unfold strOfNums
  congr 1
  simp only [List.map_map]
  congr 1
  conv => rhs; rw [← List.map_id l]
  apply List.map_congr_left
  intro b _
  simp
theorem run_str {P : Program} (W : World) (src e dst : TypeId) (hs : P.underlying src = some (.slice e)) (he : P.underlying e = some (.int .u8)) (hd : P.underlying dst = some .string) (A : Option Addr) (c : Nat) (l : List UInt8) (hr : Rc W A (bs l)) :
    (convert src dst (.slice A l.length c)).run P W = .ok (.string ⟨l.toArray⟩) W := by
  rw [← strOfNums_bytes]
  rcases l with _ | ⟨x, l⟩
  · show (convert src dst (.slice A 0 c)).run P W = _
    rw [run_convert_bytes_string W src dst e _ 0 c hs he hd]
    cases A <;> simp [Conv.bytesToString, loadCells]
    all_goals rfl
  · obtain ⟨b, off, rfl, _, hc⟩ := hr.form (by simp)
    refine run_convert_bytes_arg W src e hs he b off _ c _ (by simp) (fun i hi => ?_) dst hd
    have hi' : i < (x :: l).length := hi
    have := hc i _ (bs_at hi')
    rw [this, List.getD_eq_getElem?_getD, List.getElem?_eq_getElem (by simpa using hi')]
    simp only [Option.getD_some, List.getElem_map]

/-! ### a row of one element, built and appended -/
theorem Rc.one (w : World) (E : TypeId) (u : Value) : Rc (w.alloc (.cells #[u] E)) (some ⟨w.heap.size, 0, none⟩) [u] := (Blk.new w E [u]).rc
theorem own_alloc {w : World} {base : Nat} {e : TypeId} {size n : Nat} {v : Value} {xs : List Value} (h : w.ownsRow base e size v n xs) (o : Obj) : (w.alloc o).ownsRow base e size v n xs := h.alloc o

/-! ### rows of rows that are gathered one by one -/
/-- What a row (value out, its cells vs) gathers: slices of bytes, none of them in the row's own block. -/
def Accs (w : World) (out : Option Nat) (vs : List Value) (acc : List (List UInt8)) : Prop :=
  vs.length = acc.length ∧ ∀ (i : Nat) (l : List UInt8), acc[i]? = some l → ∃ a c, vs[i]? = some (Value.slice a l.length c) ∧ l.length ≤ c ∧ Rc w a (bs l) ∧ ∀ ad, a = some ad → l ≠ [] → ad.block < w.heap.size ∧ some ad.block ≠ out
theorem Accs.nil (w : World) (out : Option Nat) : Accs w out [] [] := ⟨rfl, by intro i l h; simp at h⟩
theorem Accs.below {w w' : World} {out : Option Nat} {vs : List Value} {acc : List (List UInt8)} (h : Accs w out vs acc) (hb : Below w.heap.size w w') : Accs w' out vs acc :=
  ⟨h.1, fun i l hl => let ⟨a, c, p, q, r, s⟩ := h.2 i l hl; ⟨a, c, p, q, r.below hb, fun ad e hn => ⟨Nat.lt_of_lt_of_le (s ad e hn).1 hb.size, (s ad e hn).2⟩⟩⟩
theorem Rc.grownE {w w' : World} {A : Option Addr} {cs : List Value} (h : Rc w A cs) {row : Option Nat} (hg : w.grownBy w' row) (hne : ∀ a, A = some a → cs ≠ [] → some a.block ≠ row) : Rc w' A cs := by
  rcases cs with _ | ⟨u, cs⟩
  · exact Rc.nil _ _
  · exact h.grown hg fun a ha => hne a ha (by simp)
theorem Accs.snoc {W w1 : World} {out out1 : Option Nat} {vs : List Value} {acc : List (List UInt8)} (h : Accs W out vs acc) {a : Option Addr} {l : List UInt8} {c : Nat} (hr : Rc W a (bs l)) (hc : l.length ≤ c)
    (hb : ∀ ad, a = some ad → l ≠ [] → ad.block < W.heap.size ∧ some ad.block ≠ out) (hg : W.grownBy w1 out) (hat : out1 = out ∨ out1 = some W.heap.size) : Accs w1 out1 (vs ++ [Value.slice a l.length c]) (acc ++ [l]) := by
  have key : ∀ (a : Option Addr) (l : List UInt8), Rc W a (bs l) → (∀ ad, a = some ad → l ≠ [] → ad.block < W.heap.size ∧ some ad.block ≠ out) → Rc w1 a (bs l) ∧ ∀ ad, a = some ad → l ≠ [] → ad.block < w1.heap.size ∧ some ad.block ≠ out1 := by
    intro a l hr hb
    refine ⟨hr.grownE hg fun ad ha hne => (hb ad ha (by simpa [bs] using hne)).2, fun ad ha hn => ⟨Nat.lt_of_lt_of_le (hb ad ha hn).1 hg.size, ?_⟩⟩
    rcases hat with e | e
    · rw [e]; exact (hb ad ha hn).2
    · rw [e]; intro e2; injection e2 with e2; have := (hb ad ha hn).1; omega
  refine ⟨by simp [h.1], fun i m hm => ?_⟩
  by_cases hi : i < acc.length
  · rw [List.getElem?_append_left hi] at hm
    obtain ⟨a', c', p, q, r, s⟩ := h.2 i m hm
    obtain ⟨r', s'⟩ := key a' m r s
    exact ⟨a', c', by rw [List.getElem?_append_left (by rw [h.1]; exact hi)]; exact p, q, r', s'⟩
  · have hi2 : i = acc.length := by
      have := (List.getElem?_eq_some_iff.1 hm).1
      simp at this; omega
    subst hi2
    rw [List.getElem?_append_right (Nat.le_refl _)] at hm
    simp at hm
    subst hm
    obtain ⟨r', s'⟩ := key a l hr hb
    exact ⟨a, c, by rw [← h.1, List.getElem?_append_right (Nat.le_refl _)]; simp, hc, r', s'⟩
theorem Accs.rcc {w : World} {out : Option Nat} {vs : List Value} {acc : List (List UInt8)} (h : Accs w out vs acc) {A : Option Addr} (hr : Rc w A vs) : Rcc w A acc :=
  ⟨vs, hr, h.1, fun i l hl => let ⟨a, c, p, q, r, _⟩ := h.2 i l hl; ⟨a, c, p, q, r⟩⟩

section
variable {P : Program} {ops : Array Oper} {o : Oper} {a : Act} {Q : Exit → Act → World → Prop} {K : Act → World → Prop} {E : Prop}
/-- append as one step of a region that draws its order -/
theorem step_app {W : World} (base : Nat) (t e : TypeId) (z : Value) (size bytes : Nat) (s x : Operand) (hgd : o.guard = none)
    (ho : o.op = .call { callee := .builtin .append, args := #[s, x], argTypes := #[t, t] })
    (ht : P.underlying t = some (.slice e)) (hinfo : (P.info? e).map (fun i => (i.zero, i.size, i.bytes)) = some (some z, size, bytes)) (hzs : z.cells.size = size) (hsz : 0 < size) (hb0 : 0 < bytes)
    (v : Value) (n : Nat) (xs ys : List Value) (A : Option Addr) (m c : Nat) (hs : a.eval s = v) (hx : a.eval x = .slice A m c)
    (HO : W.ownsRow base e size v n xs) (HR : Rc W A ys) (hm : ys.length = m * size) (h1 : ∀ u ∈ ys, u.oneCell' = true) (hbase : base ≤ W.heap.size) (hl : (n + m) * bytes ≤ 140737488355328) (n' : Nat) (cs' : List Value) (en : n + m = n') (ec : xs ++ ys = cs')
    (h : ∀ v1 w1, w1.ownsRow base e size v1 n' cs' → W.grownBy w1 v.ownBlock → (v1.ownBlock = v.ownBlock ∨ v1.ownBlock = some W.heap.size) → K (a.put o.dst v1) w1) :
    if Region.wanted o (yielded ops a.tmps) = true then Oper.wp P o a W K Q else E := by
  subst en; subst ec
  obtain ⟨v1, w1, hr, hown, hg, hat⟩ := run_append_rc (P := P) W base t o.type e z size bytes ht hinfo hzs hsz hb0 v n xs ys A m c HO HR hm h1 hbase hl
  have hw : Region.wanted o (yielded ops a.tmps) = true := by simp [Region.wanted, hgd]
  rw [if_pos hw]
  unfold Oper.wp execOp
  simp only [ho, resolve, invoke, builtin, Sem.run_bind, Sem.run_pure, Result.andThen_ok, List.map_toArray, List.map_cons, List.map_nil, hs, hx, hr]
  exact h v1 w1 hown hg hat
end

/-! ### draws alone -/
/-- The world is the old one, some orders having been drawn. -/
structure Drawn (w w' : World) : Prop where mk :: (out : ∃ n, w' = w.drewN n)
theorem Drawn.refl (w : World) : Drawn w w := ⟨⟨0, rfl⟩⟩
theorem Drawn.step {w w' : World} (h : Drawn w w') (n : Nat) : Drawn w (w'.drewN n) := by
  obtain ⟨m, rfl⟩ := h
  exact ⟨⟨m + n, World.drewN_drewN ..⟩⟩
theorem below_drewN {B : Nat} {w W : World} (h : Below B w W) (n : Nat) : Below B w (W.drewN n) := ⟨h.os, h.tape, h.output, h.size, h.block⟩
theorem Drawn.below {w w' : World} (h : Drawn w w') (B : Nat) : Below B w w' := by
  obtain ⟨n, rfl⟩ := h
  exact below_drewN (Below.refl _ _) n
theorem Drawn.grown {w w' : World} (h : Drawn w w') : Grown w w' := by
  obtain ⟨n, rfl⟩ := h
  induction n with
  | zero => exact Grown.refl _
  | succ n ih => rw [← World.drew_drewN]; exact Grown.drew ih

theorem below_none {w w' : World} (h : w.grownBy w' none) : Below w.heap.size w w' := ⟨h.os, h.tape, h.output, h.size, fun k hk => h.block k hk (by simp)⟩
theorem below_nil {w w' : World} (h : w.grownBy w' (Value.slice none 0 0).ownBlock) : Below w.heap.size w w' := below_none h

theorem own_at {w : World} {base g n cap : Nat} {e : TypeId} {xs : List Value} (h : w.ownsRow base e 1 (.slice (some ⟨g, 0, none⟩) n cap) n xs) {i : Nat} {v : Value} (hi : xs[i]? = some v) :
    w.cell? ⟨g, i, none⟩ = some v ∧ w.frozen? ⟨g, i, none⟩ = false := by
  constructor
  · have := h.cells (g := g) rfl i v hi
    rwa [addr_add, Nat.zero_add] at this
  · rcases h.2 with ⟨h', _⟩ | ⟨g', cap', cur, h', _, hh, _⟩
    · cases h'
    · have : g = g' := by injection h' with h'; injection h' with h'; injection h' with h'
      subst this
      simp [World.frozen?, hh]

end Go.Sac
