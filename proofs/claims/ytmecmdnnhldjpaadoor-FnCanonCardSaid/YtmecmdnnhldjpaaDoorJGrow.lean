/- Slices that a call makes for itself and appends to; Contracts: what a Type's labels tell: counts of variables, names put together. Conditions: none. -/
import Derived.Test.YtmecmdnnhldjpaaDoorJTree
import Derived.Test.YtmecmdnnhldjpaaDoorJTy
import Derived.Laws.AppendOwn
import Derived.Test.YtmecmdnnhldjpaaDoorTyD
import Derived.Test.YtmecmdnnhldjpaaDoorStrE
import Derived.IntWalk
namespace Go.Proofs.YtmecmdnnhldjpaaDoor
open Go.RowKit

/-- The slice v of n elements holds the cells xs; it is the call's own, and so is the room behind it. O: its block. -/
def Grow (w : World) (e : TypeId) (size : Nat) (v : Value) (n : Nat) (xs : List Value) (O : List Nat) : Prop :=
  xs.length = n * size ∧ ((v = .slice none 0 0 ∧ n = 0 ∧ O = []) ∨ ∃ g cap rest, v = .slice (some ⟨g, 0, none⟩) n cap ∧ O = [g] ∧ Blk w g e (xs ++ rest) ∧ n ≤ cap ∧ cap ≤ maxLen ∧ (xs ++ rest).length = cap * size)

section
variable {w : World} {e : TypeId} {size : Nat} {v : Value} {n : Nat} {xs : List Value} {O : List Nat}

theorem Grow.chg {M : Nat → Prop} {w' : World} (h : Chg M w w') (hn : ∀ b ∈ O, ¬ M b) (hg : Grow w e size v n xs O) : Grow w' e size v n xs O := by
  refine ⟨hg.1, hg.2.imp id ?_⟩
  rintro ⟨g, cap, rest, rfl, rfl, hb, h1, h2, h3⟩
  exact ⟨g, cap, rest, rfl, rfl, hb.chg h (hn g (by simp)), h1, h2, h3⟩

theorem Grow.ext {w' : World} (h : Ext w w') (hg : Grow w e size v n xs O) : Grow w' e size v n xs O := hg.chg h fun _ _ => id

theorem Grow.lt (hg : Grow w e size v n xs O) : ∀ b ∈ O, b < w.heap.size := by
  rcases hg.2 with ⟨_, _, rfl⟩ | ⟨g, cap, rest, rfl, rfl, hb, _⟩
  · simp
  · intro b h
    obtain rfl : b = g := by simpa using h
    exact hb.lt

theorem Grow.nil : Grow w e size (.slice none 0 0) 0 [] [] := ⟨by simp, .inl ⟨rfl, rfl, rfl⟩⟩

theorem Grow.owns (hg : Grow w e size v n xs O) {base : Nat} (hb : ∀ b ∈ O, base ≤ b) : w.ownsRow base e size v n xs := by
  refine ⟨hg.1, ?_⟩
  rcases hg.2 with ⟨rfl, rfl, rfl⟩ | ⟨g, cap, rest, rfl, rfl, hbl, h1, h2, h3⟩
  · exact .inl ⟨rfl, rfl⟩
  · refine .inr ⟨g, cap, ⟨xs ++ rest⟩, rfl, hb g (by simp), hbl, h1, h2, by simpa using h3, ?_⟩
    show (xs ++ rest).take (n * size) = xs
    rw [← hg.1]
    exact List.take_left

theorem Grow.of_owns {base : Nat} (h : w.ownsRow base e size v n xs) : ∃ O, Grow w e size v n xs O ∧ ∀ b ∈ O, v.ownBlock = some b := by
  obtain ⟨h0, ⟨rfl, rfl⟩ | ⟨g, cap, cur, rfl, _, hg, h1, h2, h3, h4⟩⟩ := h
  · exact ⟨[], ⟨h0, .inl ⟨rfl, rfl, rfl⟩⟩, by simp⟩
  · refine ⟨[g], ⟨h0, .inr ⟨g, cap, cur.toList.drop (n * size), rfl, rfl, ?_, h1, h2, ?_⟩⟩, by simp [Value.ownBlock]⟩
    · unfold Blk
      rw [← h4, List.take_append_drop]
      exact hg
    · rw [← h4, List.take_append_drop]
      simpa using h3
end

/-- append of m elements. -/
theorem Go1.app {P : Program} {w : World} {t ty e : TypeId} {z : Value} {size bytes : Nat} {K : Value → World → Prop} (ht : P.underlying t = some (.slice e)) (hi : TyI P e z size bytes) (hzs : z.cells.size = size) (hsz : 0 < size)
    {v : Value} {n : Nat} {xs : List Value} {O : List Nat} (hg : Grow w e size v n xs O) {a : Addr} {m c : Nat} {news : List Value} (hx : Lc w a news) (hl : news.length = m * size) (h1 : ∀ u ∈ news, u.oneCell' = true) (hm : n + m ≤ 1099511627776) (hby : bytes ≤ 128)
    (k : ∀ v' w' O', Chg (· ∈ O) w w' → Grow w' e size v' (n + m) (xs ++ news) O' → (∀ b ∈ O', b ∈ O ∨ w.heap.size ≤ b) → K v' w') : Go1 P (Builtin.append_ #[t, t] ty #[v, .slice (some a) m c]) w K := by
  obtain ⟨i, i1, i2, i3, i4⟩ := hi.h
  have hM : maxLen = 9223372036854775807 := rfl
  obtain ⟨v', w', hr, h2, h3, _⟩ := run_append_own (P := P) w 0 t ty e i z size bytes ht i1 i2 i3 i4 hzs hsz v n xs (hg.owns fun _ _ => Nat.zero_le _) a m c news hl (fun j u hu => hx j u hu) h1 (by omega)
    (by calc (n + m) * bytes ≤ 1099511627776 * 128 := Nat.mul_le_mul hm hby
          _ ≤ 140737488355328 := by decide) (Nat.zero_le _)
  obtain ⟨O', hg', hO'⟩ := Grow.of_owns h2
  have hO : ∀ b, v.ownBlock = some b ↔ b ∈ O := by
    intro b
    rcases hg.2 with ⟨rfl, rfl, rfl⟩ | ⟨g, cap, rest, rfl, rfl, _⟩
    · simp [Value.ownBlock]
    · simp [Value.ownBlock, eq_comm]
  have hc : Chg (· ∈ O) w w' := ⟨h3.os, h3.tape, h3.output, h3.size, fun k hk hn => h3.block k hk fun e => hn ((hO k).1 e.symm)⟩
  refine Go1.go hr (k v' w' O' hc hg' fun b hb => ?_)
  by_cases hb1 : w.heap.size ≤ b
  · exact .inr hb1
  · refine .inl ((hO b).1 ?_)
    have hv' := hO' b hb
    by_cases hown : v.ownBlock = some b
    · exact hown
    · exfalso
      rcases hg.2 with ⟨rfl, rfl, rfl⟩ | ⟨g, cap, rest, rfl, rfl, hbl, g1, g2, g3⟩
      · obtain ⟨v2, w2, hr2, q2, _, _⟩ := run_append_own (P := P) w w.heap.size t ty e i z size bytes ht i1 i2 i3 i4 hzs hsz _ 0 xs (hg.owns (by simp)) a m c news hl (fun j u hu => hx j u hu) h1 (by omega)
          (by calc (0 + m) * bytes ≤ 1099511627776 * 128 := Nat.mul_le_mul hm hby
                _ ≤ 140737488355328 := by decide) (Nat.le_refl _)
        rw [hr] at hr2
        simp only [Result.ok.injEq] at hr2
        obtain ⟨rfl, rfl⟩ := hr2
        exact hb1 (q2.lt b hv').1
      · subst i3
        subst i4
        by_cases hroom : n + m ≤ cap
        · have hr2 := run_append_room (P := P) w t ty e i ht i1 g n cap ⟨xs ++ rest⟩ hbl a m c news hl (fun j u hu => hx j u hu) h1 hroom (by
            have := Nat.mul_le_mul_right i.size hroom
            rw [Nat.add_mul] at this
            simp only [List.size_toArray]
            omega)
          rw [hr] at hr2
          simp only [Result.ok.injEq] at hr2
          rw [hr2.1] at hv'
          exact hown hv'
        · have hby' : (n + m) * i.bytes ≤ 140737488355328 := by
            calc (n + m) * i.bytes ≤ 1099511627776 * 128 := Nat.mul_le_mul hm hby
              _ ≤ 140737488355328 := by decide
          have hr2 := run_append_grow (P := P) w t ty e i z ht i1 i2 ⟨g, 0, none⟩ n cap xs hg.1 (fun j u hu => Blk.lc0 hbl j u hu) a m c news hl (fun j u hu => hx j u hu) (by omega) (by omega) (growslice_fits (by omega) hby')
          rw [hr] at hr2
          simp only [Result.ok.injEq] at hr2
          rw [hr2.1] at hv'
          simp [Value.ownBlock] at hv'
          omega

/-- An empty literal. -/
theorem Go1.b0 {P : Program} {w : World} {t : TypeId} {K : Value → World → Prop} (e : TypeId) {z : Value} {size bytes : Nat} (ht : P.underlying t = some (.slice e)) (hi : TyI P e z size bytes)
    (k : ∀ w' v, Ext w w' → Grow w' e size v 0 [] [w.heap.size] → v = .slice (some ⟨w.heap.size, 0, none⟩) 0 0 → K (.slice (some ⟨w.heap.size, 0, none⟩) 0 0) w') : Go1 P (Instr.buildSlice t 0 #[]) w K := by
  obtain ⟨i, h1, h2, h3, h4⟩ := hi.h
  refine Go1.go (w' := w.alloc (.cells #[] e)) ?_ (k _ _ (chg_alloc w _) ⟨by simp, .inr ⟨w.heap.size, 0, [], rfl, rfl, by simpa using alloc_blk w e #[], Nat.le_refl _, Nat.zero_le _, by simp⟩⟩ rfl)
  simp [Instr.buildSlice, run_underlying ht, sizeOf, typeInfo, h1, newRow, Instr.fill]
  congr 2
  simp [Array.range]
end Go.Proofs.YtmecmdnnhldjpaaDoor

namespace Go.Proofs.YtmecmdnnhldjpaaDoor
open Go.RowKit

/-- How often the variable s occurs. -/
def cntV (s : ByteArray) (xs : List TLab) : Nat := xs.countP fun x => decide (x.1 = 1 ∧ x.2 = s)
theorem cntV_append (s : ByteArray) (xs ys : List TLab) : cntV s (xs ++ ys) = cntV s xs + cntV s ys := List.countP_append ..
theorem cntV_cons (s : ByteArray) (x : TLab) (xs : List TLab) : cntV s (x :: xs) = cntV s [x] + cntV s xs := cntV_append s [x] xs
theorem cntV_1 {s : ByteArray} {x : TLab} (h1 : x.1 = 1) (h2 : x.2 = s) : cntV s [x] = 1 := by simp [cntV, h1, h2]
theorem cntV_0 {s : ByteArray} {x : TLab} (h : ¬ (x.1 = 1 ∧ x.2 = s)) : cntV s [x] = 0 := by simp [cntV, h]
theorem cntV_le (s : ByteArray) (xs : List TLab) : cntV s xs ≤ xs.length := List.countP_le_length
theorem preL_length {α : Type} (ks : List (Rose α)) : (Rose.preL ks).length = Rose.cnt ks := by
  refine Rose.forest (p := fun ks => (Rose.preL ks).length = Rose.cnt ks) (fun ks ih => ?_) ks
  induction ks with
  | nil => rw [Rose.preL_nil, Rose.cnt_nil]; rfl
  | cons k ks ihk =>
    have h1 := ih k List.mem_cons_self
    have h2 := ihk fun t ht => ih t (List.mem_cons_of_mem _ ht)
    rw [Rose.preL_cons]
    show _ = Rose.wtL _ _
    rw [Rose.wtL_cons]
    simp only [List.length_append, List.length_cons]
    have h1 : _ = Rose.wtL (fun _ => 0) k.kids := h1
    have h2 : _ = Rose.wtL (fun _ => 0) ks := h2
    omega


end Go.Proofs.YtmecmdnnhldjpaaDoor
