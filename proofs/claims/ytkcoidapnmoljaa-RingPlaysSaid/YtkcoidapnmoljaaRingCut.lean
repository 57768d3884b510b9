/-
  Slices cut out of slices of ints; package ring: PutAll.
-/
import Derived.Test.YtkcoidapnmoljaaRingGet
namespace Go.Proofs.Ytkcoidapnmoljaa.Rng
open Go.RowKit
open Go.Proofs.Ytkcoidapnmoljaa.Ints
set_option linter.unusedVariables false

/-- Go's min of two. -/
def mn (a b : Int) : Int := if b < a then b else a
theorem min2_is (k k' : IntKind) (x y : Int) : Builtin.min2 (.int k x) (.int k' y) = pure (.int k (mn x y)) := by
  simp only [Builtin.min2, mn]
theorem min_two (ats : Array TypeId) (ty : TypeId) (a b : Value) : Builtin.min_ ats ty #[a, b] = (Builtin.min2 a b >>= fun s => pure s) := by simp only [Builtin.min_, List.foldlM_cons, List.foldlM_nil]
theorem run_min_mn {P : Program} (ts : Array TypeId) (t : TypeId) (k k' : IntKind) (x y : Int) (w : World) : (Builtin.min_ ts t #[.int k x, .int k' y]).run P w = .ok (.int k (mn x y)) w := by
  rw [min_two, min2_is]; rfl

/-- The address that a slice cut at l has. -/
def cutA (a : Option Addr) (l cap : Nat) : Option Addr := if cap = l then a else a.map (·.add l)
theorem run_cut_l (a : Option Addr) (len cap : Nat) (k : IntKind) (l : Int) (n : Nat) (e : l = n) (h1 : n ≤ len) (w : World) :
    (Instr.slice 25 (.slice a len cap) (some (.int k l)) none none).run Try.prog w = .ok (.slice (cutA a n cap) (len - n) (cap - n)) w := by
  subst e
  obtain ⟨i0, hi, hz0, hz1, hz2⟩ := info_parts infoInt
  have this : Program.elem Try.prog 25 = 3 := by kernel_rfl
  rw [run_slice_l (a := a) (len := len) (cap := cap) (ht := by rw [this]; exact Try.underlying25) (kl := k) (l := n) (h0 := by omega) (h1 := by omega)]
  simp [sliced, cutA, sizeOf, typeInfo, this, hi, hz1]
theorem run_cut_h (a : Option Addr) (len cap : Nat) (k : IntKind) (l : Int) (n : Nat) (e : l = n) (h1 : n ≤ cap) (w : World) :
    (Instr.slice 25 (.slice a len cap) none (some (.int k l)) none).run Try.prog w = .ok (.slice a n cap) w := by
  subst e
  obtain ⟨i0, hi, hz0, hz1, hz2⟩ := info_parts infoInt
  have this : Program.elem Try.prog 25 = 3 := by kernel_rfl
  rw [run_slice_h (a := a) (len := len) (cap := cap) (ht := by rw [this]; exact Try.underlying25) (kh := k) (h := n) (h0 := by omega) (h2 := by omega)]
  have e0 : (fun x : Addr => x.add 0) = id := by funext x; rfl
  cases a <;> simp [sliced, sizeOf, typeInfo, this, hi, hz1, Addr.add]

theorem add_add (a : Addr) (m n : Nat) : (a.add m).add n = a.add (m + n) := by
  unfold Addr.add
  by_cases hm : m = 0
  · subst hm; simp
  · by_cases hn : n = 0
    · subst hn; simp [hm]
    · simp [hm, hn, Nat.add_assoc]
theorem Sees.take {w : World} {a : Option Addr} {cap : Nat} {xs : List Int} (h : Sees w (.slice a xs.length cap) xs) (n : Nat) (hn : n ≤ xs.length) : Sees w (.slice a n cap) (xs.take n) := by
  obtain ⟨a', cap', e, hm, hnil, hx⟩ := h
  cases e
  refine ⟨a, cap, by rw [List.length_take, Nat.min_eq_left hn], by rw [List.length_take]; omega, hnil, fun i x hi => ?_⟩
  rw [List.getElem?_take] at hi
  split at hi
  · exact hx i x hi
  · cases hi
theorem Sees.cut {w : World} {a : Option Addr} {cap : Nat} {xs : List Int} (h : Sees w (.slice a xs.length cap) xs) (hc : xs.length ≤ cap) (n : Nat) (hn : n ≤ xs.length) : Sees w (.slice (cutA a n cap) (xs.length - n) (cap - n)) (xs.drop n) := by
  obtain ⟨a', cap', e, hm, hnil, hx⟩ := h
  cases e
  refine ⟨_, _, by rw [List.length_drop], by rw [List.length_drop]; omega, fun h => ?_, fun i x hi => ?_⟩
  · unfold cutA at h
    split at h
    · omega
    · have := hnil (by simpa using h); omega
  · rw [List.getElem?_drop] at hi
    obtain ⟨b, rfl, hb⟩ := hx _ _ hi
    have hl := (List.getElem?_eq_some_iff.1 hi).1
    refine ⟨b.add n, ?_, by rw [add_add]; exact hb⟩
    unfold cutA
    rw [if_neg (by omega)]; rfl

/-- What is owned is a slice whose capacity holds it. -/
theorem Owns.parts {w : World} {base : Nat} {v : Value} {xs : List Int} (h : Owns w base v xs) : ∃ a cap, v = .slice a xs.length cap ∧ xs.length ≤ cap ∧ Sees w (.slice a xs.length cap) xs ∧ (∀ c, a = some c → base ≤ c.block ∧ c.block < w.heap.size) := by
  have hs := h.sees
  rcases h.2 with ⟨rfl, hn⟩ | ⟨g, cap, cur, rfl, hb, hg, hn, hm, hsz, ht⟩
  · refine ⟨none, 0, by rw [hn], by omega, by rw [hn]; exact hs, fun c hc => by cases hc⟩
  · exact ⟨_, cap, rfl, hn, hs, fun c hc => by cases hc; exact ⟨hb, (Array.getElem?_eq_some_iff.1 hg).1⟩⟩

theorem take_step {row l : List Int} {k : Nat} {x : Int} (hx : l[k]? = some x) : row ++ l.take k ++ [x] = row ++ l.take (k + 1) := by
  rw [take_snoc hx, List.append_assoc]

set_option maxRecDepth 100000 in
set_option maxHeartbeats 1000000 in
theorem putall_is {w : World} {b : Nat} {row l : List Int} {nxt : Option Int} {st : Int} (r : IsR w b row nxt st) (a : Option Addr) (cap : Nat) (hl : Sees w (.slice a l.length cap) l) (hcap : l.length ≤ cap)
    (hne : ∀ c, a = some c → c.block ≠ b ∧ c.block < w.heap.size) (hbig : l.length ≤ 1000000) (n : Nat) (hn : n = min l.length (256 - row.length)) :
    Calls Try.prog 10 #[.pointer (some ⟨b, 0, none⟩), .slice a l.length cap] w fun e w' => ∃ v, e = .returned v ∧ Owns w' w.heap.size v (l.drop n) ∧ IsR w' b (row ++ l.take n) nxt st ∧ w.grownBy w' (some b) := by
  have hb := r.lt
  have hrl : row.length ≤ 256 := by obtain ⟨_, _, _, r, _⟩ := r; exact r.size
  have c2 : w.cell? ⟨b, 257, none⟩ = some (.int .i64 row.length) := by obtain ⟨_, _, _, r, _⟩ := r; exact r.c257
  have e1 : mn l.length (256 - row.length) = (n : Int) := by unfold mn; split <;> omega
  have q1 : n ≤ l.length := by omega
  have q2 : n ≤ cap := by omega
  have q3 : row.length + n ≤ 256 := by omega
  have hm := run_min_mn (P := Try.prog)
  have hcl : ∀ w, (Instr.slice 25 (.slice a l.length cap) (some (.int .i64 n)) none none).run Try.prog w = .ok (.slice (cutA a n cap) (l.length - n) (cap - n)) w := fun w => run_cut_l a _ cap _ _ n rfl q1 w
  have hch : ∀ w, (Instr.slice 25 (.slice a l.length cap) none (some (.int .i64 n)) none).run Try.prog w = .ok (.slice a n cap) w := fun w => run_cut_h a _ cap _ _ n rfl q2 w
  have R := Lib.hid r
  have HL := Lib.hid hl
  have HN := Lib.hid hne
  clear r hl hn hne
  go_enter Try.func10, Try.ntmps10
  go_wp2
  go_loopw [20] (fun i wr => ∃ k : Nat, k ≤ n ∧ i = .int .i64 k ∧ IsR wr b (row ++ l.take k) nxt st ∧ w.grownBy wr (some b)) (fun i _ => n - (intOf i).toNat)
  case atStart => exact ⟨0, Nat.zero_le _, rfl, by simpa using R.out, World.grownBy.refl _ _⟩
  case round =>
    obtain ⟨k, hk, rfl, hr, hg⟩ := hrel
    have HR := Lib.hid hr
    have HG := Lib.hid hg
    have HS : Hid (Sees wr (.slice a l.length cap) l) := Lib.hid (HL.out.grown hg fun hx g hgb => by
      cases a with
      | none => simp [Value.ownBlock] at hgb
      | some c => simp [Value.ownBlock] at hgb; subst hgb; exact ⟨(HN.out c rfl).2, fun e => (HN.out c rfl).1 (Option.some.inj e).symm⟩)
    clear hr hg
    by_cases hlen : k < n
    · obtain ⟨x, hx⟩ : ∃ x, l[k]? = some x := ⟨_, List.getElem?_eq_getElem (by omega)⟩
      obtain ⟨c, ha, hc⟩ : ∃ c, a = some c ∧ wr.cell? (c.add k) = some (.int .i64 x) := by
        obtain ⟨_, _, e, _, _, h⟩ := HS.out; cases e; exact h k x hx
      subst ha
      have HX := Lib.hid hx
      clear hx hcl hch
      go_wp2_with fail
      refine (push_is HR.out (by rw [List.length_append, List.length_take]; omega) x).mono ?_
      rintro e w1 ⟨rfl, hr1, hg1⟩
      rw [take_step HX.out] at hr1
      have HR1 := Lib.hid hr1
      have HG1 := Lib.hid (grown_trans HG.out hg1 (fun j hj => .inr hj))
      clear hr1 hg1
      go_wp2
      go_roundw
      case rel => exact ⟨k + 1, by omega, by go_num, HR1.out, HG1.out⟩
      case measure => simp [intOf]; omega
    · obtain rfl : k = n := by omega
      go_wp2_with fail
      refine (clone_any (Sees.cut HS.out hcap k q1) (by rw [List.length_drop]; omega)).mono ?_
      rintro e w1 ⟨v, rfl, ho, hbl⟩
      have HO := Lib.hid (ho.lower HG.out.size)
      have HR1 := Lib.hid (HR.out.below hbl)
      have HG1 : Hid (w.grownBy w1 (some b)) := Lib.hid (grown_trans HG.out (⟨hbl.os, hbl.tape, hbl.output, hbl.size, fun j hj _ => hbl.block j hj⟩ : wr.grownBy w1 (some b)) (fun j hj => .inr hj))
      clear ho hbl
      go_wp2
      go_ret
      exact ⟨_, rfl, HO.out, HR1.out, HG1.out⟩
end Go.Proofs.Ytkcoidapnmoljaa.Rng
