/- W06World: a world, as it lies. -/
import Derived.Laws.StructEq
import Derived.Test.YtffhncpgknkkaaaProg
import Derived.Test.YtffhncpgknkkaaaCPad2
import Derived.Test.YtffhncpgknkkaaaBase18
import Derived.Test.YtffhncpgknkkaaaBase19
namespace Go.Proofs.Ytffhncpgknkkaaa
open Go.RowKit Go.Sac
set_option linter.unusedVariables false
set_option linter.unusedSimpArgs false
/-! ### keys of its maps -/
def pkey (k : Int × Int) : Value := .agg #[.int .i64 k.1, .int .i64 k.2]
set_option maxHeartbeats 1000000 in
theorem pkey_eq (x y : Int × Int) (w : World) : (Op.equal 95 (pkey x) (pkey y)).run Try.prog w = .ok (decide (x = y)) w := by
  obtain ⟨a, s⟩ := x
  obtain ⟨b, t⟩ := y
  unfold Op.equal pkey
  rw [show Op.maxDepth = 9999 + 1 from rfl]
  go_simp
  by_cases h1 : a = b <;> by_cases h2 : s = t <;> simp [h1, h2]
set_option maxHeartbeats 1000000 in
theorem pkey_check (b : Bool) (k : Int × Int) (w : World) : (Instr.checkKey b 10000 95 (pkey k)).run Try.prog w = .ok () w := by
  unfold Instr.checkKey pkey
  go_simp
  have h1 := fun n => MapKept.run_checkKey (P := Try.prog) (w := w) (kt := 3) (d := .int .i64) (k := .int .i64 n) Try.underlying3 (by simp [MapKept.IsKey]) b 9998
  rw [h1, Result.andThen_ok, h1]
theorem pkey_ok : KeyOk Try.prog 95 pkey :=
  keyOk_ask ⟨_, Try.underlying95, fun _ _ => rfl⟩ pkey_check pkey_eq (fun k => by simp [pkey, Instr.sameBits]) fun x y h => by
    obtain ⟨a, s⟩ := x
    obtain ⟨b, t⟩ := y
    simpa [pkey] using h
theorem nkey_ok : KeyOk Try.prog 3 i64v :=
  keyOk_now ⟨_, Try.underlying3, fun x y => congrArg some (show (x == y) = decide (x = y) by by_cases h : x = y <;> simp [h])⟩ (fun b k w => MapKept.run_checkKey (P := Try.prog) (w := w) (kt := 3) (d := .int .i64) (k := .int .i64 k) Try.underlying3 (by simp [MapKept.IsKey]) b 9999) (fun k => by simp [i64v, Instr.sameBits]) fun x y h => by simpa [i64v] using h
theorem smap_und : Try.prog.underlying 64 = some (.map 95 77) := Try.underlying64
theorem lmap_und : Try.prog.underlying 65 = some (.map 3 22) := Try.underlying65
theorem zero_ptr (w : World) : (zeroValue 77).run Try.prog w = .ok (.pointer none) w := run_zero_of (by kernel_rfl) w
theorem zero_sl (w : World) : (zeroValue 22).run Try.prog w = .ok (.slice none 0 0) w := run_zero_of (by kernel_rfl) w
/-! ### traces -/
structure Tr where
  kind : Int
  at_ : Int
  slot : Int
  A : Option Addr
  b : List UInt8
  c : Nat
abbrev TV := Int × Int × Int × List UInt8
def Tr.cells (x : Tr) : List Value := [.int .i64 x.kind, .int .i64 x.at_, .int .i64 x.slot, .slice x.A x.b.length x.c]
def Tr.val (x : Tr) : TV := (x.kind, x.at_, x.slot, x.b)
def trs (l : List Tr) : List Value := rowK Tr.cells l
theorem trs_len (x : Tr) : x.cells.length = 4 := rfl
theorem tr_one (x : Tr) : ∀ u ∈ x.cells, u.oneCell' = true := by
  intro u hu; simp only [Tr.cells, List.mem_cons, List.not_mem_nil, or_false] at hu; rcases hu with rfl | rfl | rfl | rfl <;> rfl
theorem trace_info : (Try.prog.info? 52).map (·.size) = some 4 := by kernel_rfl
theorem trace_info3 : (Try.prog.info? 52).map (fun i => (i.zero, i.size, i.bytes)) = some (some (.agg #[.int .i64 0, .int .i64 0, .int .i64 0, .slice none 0 0]), 4, 48) := by kernel_rfl
theorem place_info : (Try.prog.info? 95).map (·.size) = some 2 := by kernel_rfl
theorem world_info : (Try.prog.info? 73).map (·.size) = some 11 := by kernel_rfl
/-! ### slots -/
def nought : List UInt8 := List.replicate 272 0
theorem nought_len : nought.length = 272 := by unfold nought; exact List.length_replicate
theorem arr_zero : (Try.prog.info? 96).map (·.zero) = some (some (.agg (bs nought).toArray)) := by kernel_rfl
theorem arr_size {l : List UInt8} (h : l.length = 272) : (Try.prog.info? 96).map (·.size) = some (bs l).length := by
  rw [bs_len, h]; kernel_rfl
theorem slice_all (g : Nat) (w : World) : (Instr.sliceAt 96 (.pointer (some ⟨g, 0, none⟩)) none none none).run Try.prog w = .ok (.slice (some ⟨g, 0, none⟩) 272 272) w := by
  simp [Instr.sliceAt, Sem.run_bind, run_underlying Try.underlying96, Result.andThen, Instr.sureAddr, Instr.sliceBounds, Try.sizeOf5, addr_add]
/-! ### the world -/
/-- what a world means -/
structure Wd where
  blocks : Int
  slots : Int × Int → List UInt8
  s0 : List UInt8
  s1 : List UInt8
  counter : Int
  lies : Int → Option (List UInt8)
  reads : Int
  armed : Bool
  power : Int
  dead : Bool
  trace : List TV
/-- where it lies: the maps' blocks, the seals' rows, the trace's row and what it holds, the slots' arrays, the lies' rows -/
structure Wc where
  rs : Nat
  rl : Nat
  A0 : Option Addr
  c0 : Nat
  A1 : Option Addr
  c1 : Nat
  vt : Value
  T : List Tr
  F : Int × Int → Option Nat
  L : Int → Option (Option Addr × Nat)
def Wc.cells (c : Wc) (s : Wd) : List Value :=
  [.int .i64 s.blocks, .map (some c.rs), .slice c.A0 s.s0.length c.c0, .slice c.A1 s.s1.length c.c1, .int .u64 s.counter, .map (some c.rl), .int .i64 s.reads, .bool s.armed, .int .i64 s.power, .bool s.dead, c.vt]
/-- a row of bytes in blocks of kind 6 -/
structure Row6 (w : World) (K : Nat → Nat) (A : Option Addr) (b : List UInt8) (c : Nat) : Prop where
  rc : Rc w A (bs b)
  cap : b.length ≤ c
  kd : ∀ a, A = some a → K a.block = 6
def lieV (s : Wd) (n : Int) (x : Option Addr × Nat) : Value := .slice x.1 ((s.lies n).getD []).length x.2
/-- block g is a world that means s; K: what each block serves (0: it is none of the world's; 1 the object, 2 the slots' map, 3 the lies' map, 4 a slot's array, 5 the trace's row, 6 bytes) -/
structure WdAt (w : World) (g : Nat) (K : Nat → Nat) (c : Wc) (s : Wd) : Prop where
  obj : Blk w g 73 (c.cells s)
  kg : K g = 1
  krs : K c.rs = 2
  krl : K c.rl = 3
  ms : MapAt pkey w c.rs (fun p => (c.F p).map fun b => .pointer (some ⟨b, 0, none⟩))
  len : ∀ p, (s.slots p).length = 272
  hs : ∀ p b, c.F p = some b → K b = 4 ∧ Blk w b 96 (bs (s.slots p))
  h0 : ∀ p, c.F p = none → s.slots p = nought
  inj : ∀ p q b, c.F p = some b → c.F q = some b → p = q
  ml : MapAt i64v w c.rl (fun n => (c.L n).map (lieV s n))
  hl : ∀ n x, c.L n = some x → ∃ l, s.lies n = some l ∧ Row6 w K x.1 l x.2
  hn : ∀ n, c.L n = none → s.lies n = none
  q0 : Row6 w K c.A0 s.s0 c.c0
  q1 : Row6 w K c.A1 s.s1 c.c1
  tr : w.ownsRow 0 52 4 c.vt c.T.length (trs c.T)
  kt : ∀ k, c.vt.ownBlock = some k → K k = 5
  th : ∀ x ∈ c.T, Row6 w K x.A x.b x.c
  tv : c.T.map Tr.val = s.trace
  dom : ∀ k, K k ≠ 0 → k < w.heap.size
  num : 0 ≤ s.counter ∧ s.counter < 18446744073709551616 ∧ 0 ≤ s.reads ∧ 0 ≤ s.power ∧ s.power ≤ 1000000 ∧ 0 ≤ s.blocks ∧ s.blocks ≤ 4096
/-- what is none of the world's lies as it lay, and becomes none of it -/
structure Stp (K K' : Nat → Nat) (w w' : World) : Prop where
  os : w'.os = w.os
  tape : w'.tape = w.tape
  output : w'.output = w.output
  size : w.heap.size ≤ w'.heap.size
  block : ∀ k, k < w.heap.size → K k = 0 → w'.heap[k]? = w.heap[k]?
  free : ∀ k, k < w.heap.size → K k = 0 → K' k = 0
theorem Stp.refl (K : Nat → Nat) (w : World) : Stp K K w w := ⟨rfl, rfl, rfl, Nat.le_refl _, fun _ _ _ => rfl, fun _ _ h => h⟩
theorem Stp.trans {K K' K'' : Nat → Nat} {w w' w'' : World} (h : Stp K K' w w') (k : Stp K' K'' w' w'') : Stp K K'' w w'' :=
  ⟨k.os.trans h.os, k.tape.trans h.tape, k.output.trans h.output, Nat.le_trans h.size k.size, fun i hi h0 => (k.block i (Nat.lt_of_lt_of_le hi h.size) (h.free i hi h0)).trans (h.block i hi h0), fun i hi h0 => k.free i (Nat.lt_of_lt_of_le hi h.size) (h.free i hi h0)⟩
theorem Stp.of_below {K : Nat → Nat} {w w' : World} (h : Below w.heap.size w w') : Stp K K w w' := ⟨h.os, h.tape, h.output, h.size, fun k hk _ => h.block k hk, fun _ _ h => h⟩
theorem Stp.rc {K K' : Nat → Nat} {w w' : World} (h : Stp K K' w w') {A : Option Addr} {cs : List Value} (hr : Rc w A cs) (h0 : ∀ a, A = some a → cs ≠ [] → K a.block = 0) : Rc w' A cs := by
  cases cs with
  | nil => exact Rc.nil _ _
  | cons u t => exact hr.keep fun b off e hb => h.block b hb (h0 _ e (by simp))
/-- a world's blocks all lie from B on: what lay below B lies as it lay -/
theorem Stp.below {K K' : Nat → Nat} {w w' : World} (h : Stp K K' w w') {B : Nat} (hB : B ≤ w.heap.size) (h0 : ∀ k, K k ≠ 0 → B ≤ k) : Below B w w' :=
  ⟨h.os, h.tape, h.output, h.size, fun k hk => h.block k (by omega) (by by_cases e : K k = 0; exact e; have := h0 k e; omega)⟩
section
variable {w w' : World} {g : Nat} {K : Nat → Nat} {c : Wc} {s : Wd}
theorem Row6.keep {A : Option Addr} {b : List UInt8} {n : Nat} (h : Row6 w K A b n) (hk : ∀ k, k < w.heap.size → K k = 6 → w'.heap[k]? = w.heap[k]?) : Row6 w' K A b n :=
  ⟨h.rc.keep fun b off e hb => hk b hb (h.kd _ e), h.cap, h.kd⟩
theorem map_keep {K0 : Type} {kenc : K0 → Value} {r : Nat} {f : K0 → Option Value} (h : MapAt kenc w r f) (hk : w'.heap[r]? = w.heap[r]?) : MapAt kenc w' r f := by
  obtain ⟨es, clock, h1, h2⟩ := h
  exact ⟨es, clock, hk.trans h1, h2⟩
/-- nothing of the world's is turned -/
theorem WdAt.keep (h : WdAt w g K c s) (hs : w.heap.size ≤ w'.heap.size) (hk : ∀ k, K k ≠ 0 → w'.heap[k]? = w.heap[k]?) : WdAt w' g K c s where
  obj := (hk g (by rw [h.kg]; decide)).trans h.obj
  kg := h.kg
  krs := h.krs
  krl := h.krl
  ms := map_keep h.ms (hk _ (by rw [h.krs]; decide))
  len := h.len
  hs := fun p b hb => ⟨(h.hs p b hb).1, (hk b (by rw [(h.hs p b hb).1]; decide)).trans (h.hs p b hb).2⟩
  h0 := h.h0
  inj := h.inj
  ml := map_keep h.ml (hk _ (by rw [h.krl]; decide))
  hl := fun n x hx => let ⟨l, h1, h2⟩ := h.hl n x hx; ⟨l, h1, h2.keep fun k _ h6 => hk k (by omega)⟩
  hn := h.hn
  q0 := h.q0.keep fun k _ h6 => hk k (by omega)
  q1 := h.q1.keep fun k _ h6 => hk k (by omega)
  tr := own_keep h.tr fun k hk5 => hk k (by have := h.kt k hk5; omega)
  kt := h.kt
  th := fun x hx => (h.th x hx).keep fun k _ h6 => hk k (by omega)
  tv := h.tv
  dom := fun k hk0 => Nat.lt_of_lt_of_le (h.dom k hk0) hs
  num := h.num
theorem WdAt.below (h : WdAt w g K c s) (hb : Below w.heap.size w w') : WdAt w' g K c s := h.keep hb.size fun k hk => hb.block k (h.dom k hk)
theorem WdAt.lt (h : WdAt w g K c s) : g < w.heap.size := h.obj.lt
/-- numbers alone are written -/
theorem WdAt.scal (h : WdAt w g K c s) (s' : Wd) (e : s'.slots = s.slots ∧ s'.lies = s.lies ∧ s'.s0 = s.s0 ∧ s'.s1 = s.s1 ∧ s'.trace = s.trace) (hb : Blk w' g 73 (c.cells s')) (hs : w.heap.size ≤ w'.heap.size) (hk : ∀ k, k ≠ g → K k ≠ 0 → w'.heap[k]? = w.heap[k]?)
    (hn : 0 ≤ s'.counter ∧ s'.counter < 18446744073709551616 ∧ 0 ≤ s'.reads ∧ 0 ≤ s'.power ∧ s'.power ≤ 1000000 ∧ 0 ≤ s'.blocks ∧ s'.blocks ≤ 4096) : WdAt w' g K c s' := by
  obtain ⟨e1, e2, e3, e4, e5⟩ := e
  have ne : ∀ k, K k ≠ 1 → k ≠ g := fun k h1 e => h1 (by rw [e]; exact h.kg)
  have hk6 : ∀ k, k < w.heap.size → K k = 6 → w'.heap[k]? = w.heap[k]? := fun k _ h6 => hk k (ne k (by omega)) (by omega)
  exact {
    obj := hb
    kg := h.kg
    krs := h.krs
    krl := h.krl
    ms := map_keep h.ms (hk _ (ne _ (by rw [h.krs]; decide)) (by rw [h.krs]; decide))
    len := by rw [e1]; exact h.len
    hs := fun p b hb => by
      have h1 := h.hs p b hb
      rw [e1]
      exact ⟨h1.1, (hk b (ne _ (by rw [h1.1]; decide)) (by rw [h1.1]; decide)).trans h1.2⟩
    h0 := by rw [e1]; exact h.h0
    inj := h.inj
    ml := by
      have : (fun n => (c.L n).map (lieV s' n)) = fun n => (c.L n).map (lieV s n) := by unfold lieV; rw [e2]
      rw [this]
      exact map_keep h.ml (hk _ (ne _ (by rw [h.krl]; decide)) (by rw [h.krl]; decide))
    hl := fun n x hx => by
      rw [e2]
      obtain ⟨l, h1, h2⟩ := h.hl n x hx
      exact ⟨l, h1, h2.keep hk6⟩
    hn := by rw [e2]; exact h.hn
    q0 := by rw [e3]; exact h.q0.keep hk6
    q1 := by rw [e4]; exact h.q1.keep hk6
    tr := own_keep h.tr fun k hk5 => by have h5 := h.kt k hk5; exact hk k (ne k (by omega)) (by omega)
    kt := h.kt
    th := fun x hx => (h.th x hx).keep hk6
    tv := by rw [e5]; exact h.tv
    dom := fun k hk0 => Nat.lt_of_lt_of_le (h.dom k hk0) hs
    num := hn }
theorem Stp.cell (h : WdAt w g K c s) (j : Nat) (v : Value) : Stp K K w (w.setCell ⟨g, j, none⟩ v) :=
  ⟨rfl, rfl, rfl, by simp, fun k _ hk => Below.heap_setCell w ⟨g, j, none⟩ v k (fun e => by have h1 := h.kg; have h2 : k = g := e; rw [h2] at hk; omega), fun _ _ h => h⟩
theorem WdAt.cell (h : WdAt w g K c s) (j : Nat) (v : Value) (s' : Wd) (e : s'.slots = s.slots ∧ s'.lies = s.lies ∧ s'.s0 = s.s0 ∧ s'.s1 = s.s1 ∧ s'.trace = s.trace) (hc : (c.cells s).set j v = c.cells s')
    (hn : 0 ≤ s'.counter ∧ s'.counter < 18446744073709551616 ∧ 0 ≤ s'.reads ∧ 0 ≤ s'.power ∧ s'.power ≤ 1000000 ∧ 0 ≤ s'.blocks ∧ s'.blocks ≤ 4096) : WdAt (w.setCell ⟨g, j, none⟩ v) g K c s' :=
  h.scal s' e (hc ▸ h.obj.set j v) (by simp) (fun k hk _ => Below.heap_setCell w ⟨g, j, none⟩ v k hk) hn
/-- a row of somebody else's -/
structure Fr (w : World) (K : Nat → Nat) (A : Option Addr) (b : List UInt8) : Prop where
  rc : Rc w A (bs b)
  fr : ∀ a, A = some a → b ≠ [] → K a.block = 0 ∧ a.block < w.heap.size
theorem bs_nil {b : List UInt8} (h : bs b ≠ []) : b ≠ [] := fun e => h (by rw [e]; rfl)
theorem Fr.step {K' : Nat → Nat} {A : Option Addr} {b : List UInt8} (h : Fr w K A b) (hs : Stp K K' w w') : Fr w' K' A b :=
  ⟨hs.rc h.rc fun a e hb => (h.fr a e (bs_nil hb)).1, fun a e hb => ⟨hs.free _ (h.fr a e hb).2 (h.fr a e hb).1, Nat.lt_of_lt_of_le (h.fr a e hb).2 hs.size⟩⟩
theorem Fr.below {A : Option Addr} {b : List UInt8} (h : Fr w K A b) (hb : Below w.heap.size w w') : Fr w' K A b := h.step (Stp.of_below hb)
/-- a world of the law's own, in a walk that began at w0 -/
structure Wo (w0 w : World) (g : Nat) (K : Nat → Nat) (s : Wd) : Prop where
  ex : ∃ c, WdAt w g K c s
  bel : Below w0.heap.size w0 w
  own : ∀ k, K k ≠ 0 → w0.heap.size ≤ k
theorem Wo.step {w0 : World} {K' : Nat → Nat} {c' : Wc} {s' : Wd} (h : Wo w0 w g K s) (hw : WdAt w' g K' c' s') (hs : Stp K K' w w') : Wo w0 w' g K' s' :=
  ⟨⟨c', hw⟩, h.bel.trans (hs.below h.bel.size h.own), fun k hk => by
    by_cases e : K k = 0
    · by_cases hl : k < w.heap.size
      · exact absurd (hs.free k hl e) hk
      · have := h.bel.size; omega
    · exact h.own k e⟩
theorem Wo.below {w0 : World} (h : Wo w0 w g K s) (hb : Below w.heap.size w w') : Wo w0 w' g K s := let ⟨c, hc⟩ := h.ex; h.step (hc.below hb) (Stp.of_below hb)
/-- what the law was handed -/
theorem Wo.arg {w0 : World} (h : Wo w0 w g K s) {A : Option Addr} {b : List UInt8} (hr : Rc w0 A (bs b)) : Fr w K A b :=
  ⟨hr.below h.bel, fun a e hb => by
    obtain ⟨q, off, e2, hq, _⟩ := hr.form (by rw [bs_len]; exact List.length_pos_iff.2 hb)
    rw [e] at e2
    injection e2 with e2
    rw [e2]
    refine ⟨?_, Nat.lt_of_lt_of_le hq h.bel.size⟩
    by_cases e0 : K q = 0
    · exact e0
    · have := h.own q e0; omega⟩
end
end Go.Proofs.Ytffhncpgknkkaaa
