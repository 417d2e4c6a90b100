/- Laws for memory that a call makes for itself: make, new variables, literals, stores, append. Conditions: none. -/
import Derived.Test.YtmecmdnnhldjpaaDoorJDrawB
namespace Go.Proofs.YtmecmdnnhldjpaaDoor
open Go.RowKit

/-- A type's row: its zero value, its cells, its bytes. -/
structure TyI (P : Program) (t : TypeId) (z : Value) (size bytes : Nat) : Prop where
  h : ∃ i, P.info? t = some i ∧ i.zero = some z ∧ i.size = size ∧ i.bytes = bytes

theorem TyI.of {P : Program} {t : TypeId} {z : Value} {size bytes : Nat} (h : (P.info? t).map (fun i => (i.zero, i.size, i.bytes)) = some (some z, size, bytes)) : TyI P t z size bytes := by
  cases hi : P.info? t with
  | none => rw [hi] at h; simp at h
  | some i =>
    rw [hi] at h
    simp at h
    exact ⟨i, hi, h.1, h.2.1, h.2.2⟩

/-- Block b holds the cells cs, none of them frozen. -/
def Blk (w : World) (b : Nat) (e : TypeId) (cs : List Value) : Prop := w.heap[b]? = some (.cells ⟨cs⟩ e (0, 0))

theorem Blk.lt {w : World} {b : Nat} {e : TypeId} {cs : List Value} (h : Blk w b e cs) : b < w.heap.size := (Array.getElem?_eq_some_iff.1 h).1

theorem Blk.chg {M : Nat → Prop} {w w' : World} (h : Chg M w w') {b : Nat} {e : TypeId} {cs : List Value} (hn : ¬ M b) (hb : Blk w b e cs) : Blk w' b e cs := h.heap hn hb

theorem Blk.ext {w w' : World} (h : Ext w w') {b : Nat} {e : TypeId} {cs : List Value} (hb : Blk w b e cs) : Blk w' b e cs := hb.chg h id

theorem Blk.cell {w : World} {b : Nat} {e : TypeId} {cs : List Value} (h : Blk w b e cs) (i : Nat) : w.cell? ⟨b, i, none⟩ = cs[i]? := by
  rw [cell_of_row w b i ⟨cs⟩ e (0, 0) h]
  simp

/-- The cells xs lie in block b from off on. -/
theorem Blk.lc {w : World} {b : Nat} {e : TypeId} {pre xs post : List Value} (h : Blk w b e (pre ++ xs ++ post)) : Lc w ⟨b, pre.length, none⟩ xs := by
  intro i v hv
  rw [Addr.add_lit, h.cell]
  have hi := (List.getElem?_eq_some_iff.1 hv).1
  rw [List.append_assoc, List.getElem?_append_right (by omega), List.getElem?_append_left (by omega)]
  rw [Nat.add_sub_cancel_left]
  exact hv

theorem Blk.lc0 {w : World} {b : Nat} {e : TypeId} {xs post : List Value} (h : Blk w b e (xs ++ post)) : Lc w ⟨b, 0, none⟩ xs := by
  have := Blk.lc (pre := []) (xs := xs) (post := post) (by simpa using h)
  simpa using this

/-- Blocks that have been made since the heap had n blocks, each once, none frozen. -/
structure Fresh (n : Nat) (w : World) (bs : List Nat) : Prop where
  nodup : bs.Nodup
  lo : ∀ b ∈ bs, n ≤ b
  blk : ∀ b ∈ bs, ∃ c e, Blk w b e c

theorem Fresh.nil (n : Nat) (w : World) : Fresh n w [] := ⟨List.nodup_nil, by simp, by simp⟩

theorem Fresh.chg {M : Nat → Prop} {w w' : World} (h : Chg M w w') {n : Nat} {bs : List Nat} (hn : ∀ b ∈ bs, ¬ M b) (hf : Fresh n w bs) : Fresh n w' bs :=
  ⟨hf.nodup, hf.lo, fun b hb => by obtain ⟨c, e, hc⟩ := hf.blk b hb; exact ⟨c, e, hc.chg h (hn b hb)⟩⟩

theorem Fresh.ext {w w' : World} (h : Ext w w') {n : Nat} {bs : List Nat} (hf : Fresh n w bs) : Fresh n w' bs := hf.chg h fun _ _ => id

theorem Fresh.mono {w : World} {n m : Nat} {bs : List Nat} (h : m ≤ n) (hf : Fresh n w bs) : Fresh m w bs := ⟨hf.nodup, fun b hb => Nat.le_trans h (hf.lo b hb), hf.blk⟩

theorem Fresh.lt {w : World} {n : Nat} {bs : List Nat} (hf : Fresh n w bs) : ∀ b ∈ bs, b < w.heap.size := fun b hb => by obtain ⟨c, e, hc⟩ := hf.blk b hb; exact hc.lt

theorem Fresh.one {w : World} {n b : Nat} {e : TypeId} {cs : List Value} (h : Blk w b e cs) (hn : n ≤ b) : Fresh n w [b] :=
  ⟨by simp, by simpa using hn, by simpa using ⟨cs, e, h⟩⟩

theorem Fresh.append {w : World} {n m : Nat} {bs cs : List Nat} (h1 : Fresh n w bs) (h2 : Fresh m w cs) (hm : n ≤ m) (hlt : ∀ b ∈ bs, b < m) : Fresh n w (bs ++ cs) :=
  ⟨List.nodup_append.2 ⟨h1.nodup, h2.nodup, fun a ha b hb e => by have := hlt a ha; have := h2.lo b hb; omega⟩,
    fun b hb => (List.mem_append.1 hb).elim (h1.lo b) (fun h => Nat.le_trans hm (h2.lo b h)), fun b hb => (List.mem_append.1 hb).elim (h1.blk b) (h2.blk b)⟩

theorem Fresh.cons {w : World} {n b : Nat} {bs : List Nat} {e : TypeId} {c : List Value} (hb : Blk w b e c) (hn : n ≤ b) (h : Fresh n w bs) (hnm : b ∉ bs) : Fresh n w (b :: bs) :=
  ⟨List.nodup_cons.2 ⟨hnm, h.nodup⟩, fun x hx => (List.mem_cons.1 hx).elim (fun e => e ▸ hn) (h.lo x), fun x hx => (List.mem_cons.1 hx).elim (fun e' => e' ▸ ⟨c, e, hb⟩) (h.blk x)⟩

theorem alloc_blk (w : World) (e : TypeId) (cs : Array Value) : Blk (w.alloc (.cells cs e)) w.heap.size e cs.toList := by
  unfold Blk
  exact heap_alloc_new w _

/-- A zeroed row of n elements. -/
def zeros (zs : List Value) (n : Nat) : List Value := (List.replicate n zs).flatten

theorem length_zeros (zs : List Value) (n : Nat) : (zeros zs n).length = n * zs.length := by
  induction n with
  | zero => simp [zeros]
  | succ n ih => simp only [zeros, List.replicate_succ, List.flatten_cons, List.length_append] at ih ⊢; rw [ih]; rw [Nat.add_mul]; omega

theorem getElem?_zeros (zs : List Value) : ∀ (n i : Nat), i < n * zs.length → (zeros zs n)[i]? = zs[i % zs.length]?
  | 0, i, h => by simp at h
  | n + 1, i, h => by
    simp only [zeros, List.replicate_succ, List.flatten_cons]
    by_cases hi : i < zs.length
    · rw [List.getElem?_append_left hi, Nat.mod_eq_of_lt hi]
    · rw [List.getElem?_append_right (by omega)]
      have := getElem?_zeros zs n (i - zs.length) (by rw [Nat.add_mul] at h; omega)
      unfold zeros at this
      rw [this]
      congr 1
      exact (Nat.mod_eq_sub_mod (by omega)).symm

theorem madeCells_zeros (z : Array Value) (n : Nat) : (madeCells z (n * z.size)).toList = zeros z.toList n := by
  apply List.ext_getElem?
  intro i
  by_cases hi : i < n * z.size
  · rw [getElem?_zeros _ _ _ (by simpa using hi)]
    have hz : 0 < z.size := by
      rcases Nat.eq_zero_or_pos z.size with h | h
      · rw [h] at hi; simp at hi
      · exact h
    have hm := Nat.mod_lt i hz
    simp [madeCells, hi, hm]
  · rw [List.getElem?_eq_none (by simp [madeCells]; omega), List.getElem?_eq_none (by rw [length_zeros]; simp; omega)]

/-- make([]T, n). -/
theorem Go1.make {P : Program} {w : World} {t : TypeId} {kl kc : IntKind} {n : Nat} {K : Value → World → Prop} (e : TypeId) {z : Value} {size bytes : Nat} (ht : P.underlying t = some (.slice e)) (hi : TyI P e z size bytes) (hz : z.cells.size = size)
    (hb : bytes * n ≤ 281474976710656) (hn : n ≤ maxLen)
    (k : ∀ w', Ext w w' → Blk w' w.heap.size e (zeros z.cells.toList n) → K (.slice (some ⟨w.heap.size, 0, none⟩) n n) w') : Go1 P (Instr.makeSlice t (.int kl (n : Int)) (.int kc (n : Int))) w K := by
  obtain ⟨i, h1, h2, h3, h4⟩ := hi.h
  subst h3
  subst h4
  have h63 : (n : Int) ≤ 9223372036854775807 := by simp only [maxLen] at hn; omega
  have hb' : (i.bytes : Int) * (n : Int) ≤ 281474976710656 := by
    have h : ((i.bytes * n : Nat) : Int) ≤ 281474976710656 := by omega
    rwa [Int.natCast_mul] at h
  have hr := run_make (P := P) w t e i z ht h1 h2 kl kc n n (by omega) (Int.le_refl _) hb' h63
  simp only [Int.toNat_natCast] at hr
  refine Go1.go hr (k _ (chg_alloc w _) ?_)
  have := alloc_blk w e (madeCells z.cells (n * i.size))
  rw [← hz, madeCells_zeros] at this
  rw [← hz]
  exact this

/-- A new variable, zeroed. -/
theorem Go1.al {P : Program} {w : World} {t : TypeId} {K : Value → World → Prop} {z : Value} {size bytes : Nat} (hi : TyI P t z size bytes)
    (k : ∀ w', Ext w w' → Blk w' w.heap.size t z.cells.toList → K (.pointer (some ⟨w.heap.size, 0, none⟩)) w') : Go1 P (Instr.alloc t true (.tuple #[])) w K := by
  obtain ⟨i, h1, h2, h3, h4⟩ := hi.h
  refine Go1.go (w' := w.alloc (.cells z.cells t)) ?_ (k _ (chg_alloc w _) (alloc_blk w t _))
  simp [Instr.alloc, zeroValue, typeInfo, h1, h2, newVar, newRow]

/-- A new variable with its value. -/
theorem Go1.bx {P : Program} {w : World} {t : TypeId} {v : Value} {K : Value → World → Prop}
    (k : ∀ w', Ext w w' → Blk w' w.heap.size t v.cells.toList → K (.pointer (some ⟨w.heap.size, 0, none⟩)) w') : Go1 P (Instr.box t v) w K := by
  refine Go1.go (w' := w.alloc (.cells v.cells t)) ?_ (k _ (chg_alloc w _) (alloc_blk w t _))
  simp [Instr.box, newVar, newRow]

/-- A slice literal. -/
theorem Go1.bs {P : Program} {w : World} {t : TypeId} {len : Nat} {parts : Array (Nat × Value)} {K : Value → World → Prop} (e : TypeId) (cells : List Value) {z : Value} {size bytes : Nat} (ht : P.underlying t = some (.slice e)) (hi : TyI P e z size bytes)
    (hl : len * size ≤ 16777216) (h0 : len * size ≠ 0) (hf : Instr.fill (fun i => some (i * size, size)) ((Array.range (len * size)).map (z.cells[· % z.cells.size]!)) parts.toList = some ⟨cells⟩)
    (k : ∀ w', Ext w w' → Blk w' w.heap.size e cells → K (.slice (some ⟨w.heap.size, 0, none⟩) len len) w') : Go1 P (Instr.buildSlice t len parts) w K := by
  obtain ⟨i, h1, h2, h3, h4⟩ := hi.h
  subst h3
  refine Go1.go (w' := w.alloc (.cells ⟨cells⟩ e)) ?_ (k _ (chg_alloc w _) (alloc_blk w e _))
  have hl' : ¬ 2 ^ 24 < len * i.size := by omega
  simp [Instr.buildSlice, run_underlying ht, sizeOf, zeroValue, typeInfo, h1, h2, hf, newRow, h0]
  omega

/-- A struct literal. -/
theorem Go1.bd {P : Program} {w : World} {t : TypeId} {parts : Array (Nat × Value)} {K : Value → World → Prop} (cells : List Value) (k : K (.agg ⟨cells⟩) w) (h : P.built t parts.toList = some ⟨cells⟩ := by kernel_rfl) : Go1 P (Instr.build t parts) w K :=
  Go1.go (run_build w t parts ⟨cells⟩ h) k

theorem GoS.bd {P : Program} {S : World → Prop} {t : TypeId} {parts : Array (Nat × Value)} {K : Value → Prop} (cells : List Value) (k : K (.agg ⟨cells⟩)) (h : P.built t parts.toList = some ⟨cells⟩ := by kernel_rfl) : GoS P (Instr.build t parts) S K :=
  GoS.of1 (fun w => run_build w t parts ⟨cells⟩ h) k

/-- cs with vs written over it from off on. -/
def spl (cs : List Value) (off : Nat) (vs : List Value) : List Value := cs.take off ++ vs ++ cs.drop (off + vs.length)

theorem spl_app (xs ys vs : List Value) {off : Nat} (h : off = xs.length) : spl (xs ++ ys) off vs = xs ++ vs ++ ys.drop vs.length := by
  subst h
  simp [spl, List.drop_append]

theorem spl_mid (xs ys zs vs : List Value) {off : Nat} (h : off = xs.length) (hl : vs.length = ys.length) : spl (xs ++ ys ++ zs) off vs = xs ++ vs ++ zs := by
  rw [List.append_assoc, spl_app _ _ _ h, hl]
  simp

theorem chg_setRow (w : World) (b : Nat) (cs : Array Value) : Chg (fun k => k = b) w (w.setRow b cs) :=
  ⟨rfl, rfl, rfl, by simp [World.setRow], fun k _ hn => setRow_other w b k cs hn⟩

def sizB (P : Program) (t : TypeId) (n : Nat) : Bool := match P.info? t with
  | some i => i.size == n
  | none => false

/-- A store into a block of the call's own. -/
theorem Go0.st {P : Program} {t : TypeId} {w : World} {a : Addr} {b off : Nat} {e : TypeId} {cs vs : List Value} {v : Value} {K : World → Prop} (h : Blk w b e cs) (ha : a = ⟨b, off, none⟩) (hv : v.cells = ⟨vs⟩) (hsz : off + vs.length ≤ cs.length)
    (h1 : ∀ u ∈ vs, u.oneCell' = true) (k : ∀ w', Chg (fun k => k = b) w w' → Blk w' b e (spl cs off vs) → w'.heap.size = w.heap.size → K w') (ht : sizB P t vs.length = true := by kernel_rfl) : Go0 P (storeVar t a v) w K := by
  subst ha
  have hr := run_storeCells_at P b off e vs 0 ⟨cs⟩ w h (by simpa using hsz) h1
  refine Go0.go (w' := w.setRow b (spl cs off vs).toArray) ?_ (k _ (chg_setRow w b _) ?_ (by simp [World.setRow]))
  · unfold sizB at ht
    split at ht
    · rename_i i hi
      have : i.size = vs.length := by simpa using ht
      simp only [Nat.add_zero] at hr
      simp [storeVar, sizeOf, typeInfo, hi, this, hv, hr, spl]
    · simp at ht
  · exact setRow_heap w b ⟨cs⟩ _ e (0, 0) h

def fldB (P : Program) (s : TypeId) (f off : Nat) : Bool := match P.underlying s with
  | some (.struct fs) => match fs[f]? with
    | some fd => fd.offset == off && (match P.info? fd.type with | some i => !(i.size == 0) | none => false)
    | none => false
  | _ => false

theorem run_fld {P : Program} {s : TypeId} {a : Addr} {f off : Nat} (ht : fldB P s f off = true) (w : World) : (Instr.fieldAt s (.pointer (some a)) f).run P w = .ok (.pointer (some (a.add off))) w := by
  unfold fldB at ht
  split at ht
  · rename_i fs hu
    split at ht
    · rename_i fd hf
      simp only [Bool.and_eq_true, beq_iff_eq] at ht
      obtain ⟨h1, h2⟩ := ht
      split at h2
      · rename_i i hi
        have h0 : ¬ i.size = 0 := by simpa using h2
        simp [Instr.fieldAt, run_underlying hu, hf, Instr.sureAddr, fieldPlace, sizeOf, typeInfo, hi, h0, h1]
      · simp at h2
    · simp at ht
  · simp at ht

theorem Go1.fl {P : Program} {s : TypeId} {w : World} {a : Addr} {f : Nat} {K : Value → World → Prop} (off : Nat) (k : K (.pointer (some (a.add off))) w) (ht : fldB P s f off = true := by kernel_rfl) : Go1 P (Instr.fieldAt s (.pointer (some a)) f) w K :=
  Go1.go (run_fld ht w) k

theorem GoS.fl {P : Program} {s : TypeId} {S : World → Prop} {a : Addr} {f : Nat} {K : Value → Prop} (off : Nat) (k : K (.pointer (some (a.add off)))) (ht : fldB P s f off = true := by kernel_rfl) : GoS P (Instr.fieldAt s (.pointer (some a)) f) S K :=
  GoS.of1 (run_fld ht) k

end Go.Proofs.YtmecmdnnhldjpaaDoor
