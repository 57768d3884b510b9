/-
  A heap beside the document's row: what each deed leaves.
-/
import Derived.Test.YtlnbjnkmhabdaaaRefHeap2
import Derived.Test.YtlnbjnkmhabdaaaHeapRem
import Derived.Test.YtlnbjnkmhabdaaaHeapLives
import Derived.Test.YtlnbjnkmhabdaaaHeapLen
namespace Go.Proofs.Ytlnbjnkmhabdaaa.Hp
open Go.RowKit Go.Shelf
set_option linter.unusedVariables false

theorem addr_add_add (a : Addr) (m n : Nat) : (a.add m).add n = a.add (m + n) := by
  unfold Addr.add
  by_cases hm : m = 0
  · subst hm; simp
  · by_cases hn : n = 0
    · subst hn; simp [hm]
    · simp [hm, hn, Nat.add_assoc]
theorem srt_eq' {es fs : List Ent} (h : es.Perm fs) : srt es = srt fs := srt_unique ((srt_perm es).trans h) (srt_sorted es)
theorem srt_head {x : Ent} {t : List Ent} (hh : Heapish (x :: t)) : srt (x :: t) = x :: srt (takeL (x :: t)) := by
  have hl := take_law hh
  refine (srt_unique ((List.Perm.cons x (srt_perm _)).trans hl.1) (List.pairwise_cons.2 ⟨fun y hy => ?_, srt_sorted _⟩)).symm
  exact head_least hh y (hl.1.mem_iff.1 (List.mem_cons_of_mem _ ((srt_perm _).mem_iff.1 hy)))
theorem srt_keep {g : Int} {es es' : List Ent} (h : es'.Perm (keepG g es)) : keepG g (srt es) = srt es' :=
  srt_unique (((srt_perm es).filter _).trans h.symm) ((srt_sorted es).filter _)
theorem srt_put {es : List Ent} (hh : Heapish es) (e : Ent) : ins e (srt es) = srt (upL (es ++ [e]) es.length) := by
  rw [ins_srt]
  exact srt_eq' ((List.perm_append_comm (l₁ := es) (l₂ := [e])).trans (put_law hh e).1.symm)

/-- A heap at block A, and the document's row. -/
structure Doc (w wr : World) (A : Nat) (v u : Value) (es D : List Ent) : Prop where
  ha : IsHp wr A A 0 v es
  ih : Heapish es
  doc : RSees wr (A + 1) u D
  xx : ∀ j, v.ownBlock = some j → u.ownBlock ≠ some j
  below : Below w.heap.size w wr
  low : w.heap.size ≤ A
section
variable {w wr w' : World} {A : Nat} {v v' u u' : Value} {es es' D D' : List Ent}
theorem Doc.none (P : Doc w wr A v u es D) (hg : wr.grownBy w' Option.none) : Doc w w' A v u es D :=
  ⟨P.ha.grown hg, P.ih, P.doc.kept hg.size (fun j hj => hg.block j (P.doc.own hj).2 (by simp)), P.xx, ⟨hg.os.trans P.below.os, hg.tape.trans P.below.tape, hg.output.trans P.below.output, Nat.le_trans P.below.size hg.size, fun k hk => (hg.block k (Nat.lt_of_lt_of_le hk P.below.size) (by simp)).trans (P.below.block k hk)⟩, P.low⟩
theorem Doc.after (P : Doc w wr A v u es D) (hb : Below wr.heap.size wr w') : Doc w w' A v u es D :=
  P.none ⟨hb.os, hb.tape, hb.output, hb.size, fun j hj _ => hb.block j hj⟩
theorem Doc.drewN (P : Doc w wr A v u es D) (n : Nat) : Doc w (wr.drewN n) A v u es D := P.none ⟨rfl, rfl, rfl, Nat.le_refl _, fun _ _ _ => rfl⟩
theorem Doc.deed (P : Doc w wr A v u es D) (h : IsHp w' A A 0 v' es') (hh : Heapish es') (hf : HFr wr w' A 0 v v') : Doc w w' A v' u es' D := by
  have hA := P.ha.lt
  have hbl : Below w.heap.size w w' := P.below.trans ((hf.below (B := A) (Nat.le_refl _) P.ha.base_le (Nat.le_of_lt hA)).mono P.low)
  refine ⟨h, hh, P.doc.kept hf.size (fun j hj => hf.block j (P.doc.own hj).2 (by have := (P.doc.own hj).1; omega) (fun e => P.xx j e hj)), fun j hj hu => ?_, hbl, P.low⟩
  rcases hf.own with h1 | h1
  · rw [h1] at hj; exact P.xx j hj hu
  · have := h1 j hj; have := (P.doc.own hu).2; omega
theorem Doc.row (P : Doc w wr A v u es D) (ho : OwnsR w' wr.heap.size u' D') (hb : Below wr.heap.size wr w') : Doc w w' A v u' es D' := by
  have hA := P.ha.lt
  have P' := P.after hb
  exact ⟨P'.ha, P'.ih, OwnsR.sees ho (by omega), fun j hj hu => by have := (World.ownsRow.lt ho j hu).1; have := (P.ha.ownlt j hj).1; omega, P'.below, P'.low⟩
theorem Doc.cut {a : Option Addr} {n c : Nat} {x : Ent} (P : Doc w wr A v (.slice a n c) es (x :: D)) (u' : Value) (hu : u' = .slice (if c = 1 then a else a.map (·.add 3)) (n - 1) (c - 1)) : Doc w wr A v u' es D := by
  obtain ⟨a', cap, e, h1, h2, h3, h4⟩ := P.doc
  obtain ⟨rfl, hn, rfl⟩ := Value.slice.inj e
  subst hn hu
  have hob : ∀ j, (Value.slice (if c = 1 then a else a.map (·.add 3)) ((x :: D).length - 1) (c - 1)).ownBlock = some j → (Value.slice a (x :: D).length c).ownBlock = some j := by
    intro j hj
    cases a with
    | none => simp [Value.ownBlock] at hj
    | some b =>
      split at hj
      · simpa [Value.ownBlock] using hj
      · simpa [Value.ownBlock, addr_block] using hj
  refine ⟨P.ha, P.ih, ⟨_, c - 1, rfl, by simp at h1 ⊢; omega, by omega, fun q hq => ?_, fun i e hi => ?_⟩, fun j hj hu => P.xx j hj (hob j hu), P.below, P.low⟩
  · split at hq
    · exact h3 q hq
    · obtain ⟨b, hb, rfl⟩ := Option.map_eq_some_iff.1 hq
      have := h3 b hb
      simpa [addr_block] using this
  · obtain ⟨b, rfl, c0, c1, c2⟩ := h4 (i + 1) e (by simpa using hi)
    have hne : ¬ c = 1 := by
      have := (List.getElem?_eq_some_iff.1 hi).1
      simp at h1; omega
    have hadd : (b.add 3).add (i * 3) = b.add ((i + 1) * 3) := by
      rw [addr_add_add]; congr 1; omega
    refine ⟨b.add 3, by rw [if_neg hne]; rfl, ?_⟩
    rw [hadd]
    exact ⟨c0, c1, c2⟩
end
end Go.Proofs.Ytlnbjnkmhabdaaa.Hp
