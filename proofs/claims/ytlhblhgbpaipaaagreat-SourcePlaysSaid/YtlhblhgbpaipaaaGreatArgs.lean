/-
  Arguments that are slices of integers, slices of flat structs of integers, or such structs by value: what the walk is told of their cells.
-/
import Derived.Test.YtlhblhgbpaipaaaGreatRows
import Derived.WalkKit
import Derived.ProofKit
import Derived.OpenShut
import Derived.Deep.Slices
namespace Go.Proofs.YtlhblhgbpaipaaaGreat.Args
open Go.ChangeShapes Go.WideShapes Go.ChangeAt Go.RowKit
set_option linter.unusedVariables false

def valsOf : List IntKind → List Int → List Value
  | k :: ks, n :: ns => .int k n :: valsOf ks ns
  | _, _ => []
def Fits : List IntKind → List Int → Prop
  | [], [] => True
  | k :: ks, n :: ns => (Lit.int k n).wf = true ∧ Fits ks ns
  | _, _ => False

theorem valsOf_length : ∀ {ks : List IntKind} {ns : List Int}, Fits ks ns → (valsOf ks ns).length = ks.length
  | [], [], _ => rfl
  | [], _ :: _, h => h.elim
  | _ :: _, [], h => h.elim
  | k :: ks, n :: ns, h => by simp [valsOf, valsOf_length h.2]

theorem fits_append : ∀ {ks ls : List IntKind} {ns ms : List Int}, Fits ks ns → Fits ls ms → Fits (ks ++ ls) (ns ++ ms) ∧ valsOf (ks ++ ls) (ns ++ ms) = valsOf ks ns ++ valsOf ls ms
  | [], _, [], _, _, h => ⟨h, rfl⟩
  | [], _, _ :: _, _, h, _ => h.elim
  | _ :: _, _, [], _, h, _ => h.elim
  | k :: ks, ls, n :: ns, ms, h, h' => by
    obtain ⟨a, b⟩ := fits_append h.2 h'
    exact ⟨⟨h.1, a⟩, by simp [valsOf, b]⟩

def Reads (P : Program) (t : TypeId) (ks : List IntKind) : Prop :=
  ∀ (H : Type) (enc : TypeId × Value → H) (w : World) (base : Nat) (spare : Nat → Bool) (held : Bool) (fuel : Nat) (cs : List Value) (x : DataW H × List MemPlace),
    DataW.trod enc P w base spare held fuel t cs = some x → ∃ ns, cs = valsOf ks ns ∧ Fits ks ns

def ReadsF (P : Program) (fs : List Field) (o : Nat) (ks : List IntKind) : Prop :=
  ∀ (H : Type) (enc : TypeId × Value → H) (w : World) (base : Nat) (spare : Nat → Bool) (held : Bool) (fuel : Nat) (cs : List Value),
    (∀ f, f ∈ fs → ∃ x, DataW.trod enc P w base spare held fuel f.type ((cs.drop f.offset).take (P.cellsOf f.type)) = some x) → cs.length = o + ks.length →
    ∃ ns, cs.drop o = valsOf ks ns ∧ Fits ks ns

theorem reads_int {P : Program} {t : TypeId} {k : IntKind} (ht : P.underlying t = some (.int k)) : Reads P t [k] := by
  intro H enc w base spare held fuel cs x h
  obtain ⟨n, rfl, _, hw⟩ := DataW.trod_int ht h
  exact ⟨[n], rfl, hw, trivial⟩

theorem readsF_nil {P : Program} {o : Nat} : ReadsF P [] o [] := by
  intro H enc w base spare held fuel cs _ hl
  exact ⟨[], by simp at hl; simp [valsOf, hl], trivial⟩

theorem readsF_cons {P : Program} {f : Field} {fs : List Field} {o : Nat} {ks ls : List IntKind} (ho : f.offset = o) (hc : P.cellsOf f.type = ks.length) (hf : Reads P f.type ks)
    (hr : ReadsF P fs (o + ks.length) ls) : ReadsF P (f :: fs) o (ks ++ ls) := by
  intro H enc w base spare held fuel cs h hl
  obtain ⟨x, hx⟩ := h f (List.mem_cons_self ..)
  rw [ho, hc] at hx
  obtain ⟨ns, e1, f1⟩ := hf H enc w base spare held fuel _ x hx
  obtain ⟨ms, e2, f2⟩ := hr H enc w base spare held fuel cs (fun g hg => h g (List.mem_cons_of_mem _ hg)) (by simp at hl; omega)
  obtain ⟨f3, e3⟩ := fits_append f1 f2
  refine ⟨ns ++ ms, ?_, f3⟩
  rw [e3, ← e1, ← e2, ← List.drop_drop, List.take_append_drop]

theorem reads_struct {P : Program} {t : TypeId} {fs : Array Field} {ks : List IntKind} (ht : P.underlying t = some (.struct fs)) (hc : P.cellsOf t = ks.length) (hr : ReadsF P fs.toList 0 ks) : Reads P t ks := by
  intro H enc w base spare held fuel cs x h
  obtain ⟨xs, n, rfl, rfl, hl, hsz, hf⟩ := DataW.trod_struct ht h
  have := hr H enc w base spare held n cs (fun f hm => by
    obtain ⟨i, hi, rfl⟩ := List.getElem_of_mem hm
    have hi' : i < fs.size := by simpa using hi
    have e := hf i fs[i] (by simp [hi'])
    have : i < xs.length := by omega
    exact ⟨xs[i], by simpa [List.getElem?_eq_getElem this] using e⟩) (by rw [hl, hc]; simp)
  simpa using this

theorem cell_lt {w : World} {a : Addr} {v : Value} (h : w.cell? a = some v) : a.block < w.heap.size := by
  unfold World.cell? at h
  split at h
  · rename_i e; exact (Array.getElem?_eq_some_iff.1 e).1
  · cases h

theorem block_add (a : Addr) (n : Nat) : (a.add n).block = a.block := by
  unfold Addr.add; split <;> rfl

/-- What a walk is told of a slice of flat elements. -/
def IsFlat (ks : List IntKind) (w : World) (a : Option Addr) (len : Nat) : Prop :=
  len ≤ maxLen ∧ (a = none → len = 0) ∧ ∃ f : Nat → List Int, ∀ i, i < len → Fits ks (f i) ∧ ∀ x, a = some x → ∀ j v, (valsOf ks (f i))[j]? = some v → w.cell? (x.add (i * ks.length + j)) = some v ∧ x.block < w.heap.size

theorem isFlat_of_trod {P : Program} {w : World} {H : Type} {enc : TypeId × Value → H} {spare : Nat → Bool} {t e : TypeId} {ks : List IntKind} (ht : P.underlying t = some (.slice e))
    (hr : Reads P e ks) (hc : P.cellsOf e = ks.length) {a : Option Addr} {len cap : Nat} {d : DataW H} {p : List MemPlace}
    (h : DataW.Trod enc P w 0 spare true t (.slice a len cap) d p) : IsFlat ks w a len := by
  obtain ⟨fuel, hf⟩ := h
  rcases Go.Deep.open_slice ht hf with ⟨hcs, _⟩ | ⟨x, l, c, m, n, D, Pl, hcs, _, hl, hm, hmm, _, hx⟩
  · simp [Value.cells] at hcs
    obtain ⟨rfl, rfl, rfl⟩ := hcs
    exact ⟨by unfold maxLen; omega, fun _ => rfl, fun _ => [], fun i hi => absurd hi (by omega)⟩
  · simp [Value.cells] at hcs
    obtain ⟨rfl, rfl, rfl⟩ := hcs
    have hlm : len ≤ m := by rw [hmm]; split <;> omega
    have key : ∀ i, i < len → ∃ ns, Fits ks ns ∧ ∀ j v, (valsOf ks ns)[j]? = some v → w.cell? (x.add (i * ks.length + j)) = some v ∧ x.block < w.heap.size := by
      intro i hi
      obtain ⟨cs', h1, h2⟩ := hx i (by omega)
      obtain ⟨ns, rfl, hfit⟩ := hr _ _ _ _ _ _ _ _ _ h2
      refine ⟨ns, hfit, fun j v hj => ?_⟩
      obtain ⟨_, hlen, hcell⟩ := World.cells?_some h1
      rw [hc] at hcell
      have hj' : j < ks.length := by
        have := (List.getElem?_eq_some_iff.1 hj).1
        rwa [valsOf_length hfit] at this
      have e := hcell j hj'
      rw [hj, Go.Deep.add_add] at e
      have hb := cell_lt e
      rw [block_add] at hb
      exact ⟨e, hb⟩
    obtain ⟨f, hf⟩ := Go.Deep.choose_lt (α := List Int) key
    exact ⟨by omega, by simp, f, fun i hi => ⟨(hf i hi).1, fun y hy => by cases hy; exact (hf i hi).2⟩⟩

theorem nil_of_trod {P : Program} {w : World} {H : Type} {enc : TypeId × Value → H} {spare : Nat → Bool} {t e : TypeId} (ht : P.underlying t = some (.slice e))
    {a : Option Addr} {len cap : Nat} {d : DataW H} {p : List MemPlace} (h : DataW.Trod enc P w 0 spare true t (.slice a len cap) d p) : a = none → cap = 0 := by
  rintro rfl
  obtain ⟨fuel, hf⟩ := h
  rcases Go.Deep.open_slice ht hf with ⟨hcs, _⟩ | ⟨x, l, c, m, n, D, Pl, hcs, _⟩
  · simp [Value.cells] at hcs; exact hcs.2
  · simp [Value.cells] at hcs

theorem agg_of_trod {P : Program} {w : World} {H : Type} {enc : TypeId × Value → H} {spare : Nat → Bool} {r : Reach} {b0 : Nat} {t : TypeId} {fs : Array Field} {ks : List IntKind} (ht : P.underlying t = some (.struct fs))
    (hr : Reads P t ks) {v : Value} {d : DataW H} {p : List MemPlace} (hv : Value.okWide P w r b0 t v)
    (h : DataW.Trod enc P w 0 spare true t v d p) : ∃ ns, v = .agg (valsOf ks ns).toArray ∧ Fits ks ns := by
  obtain ⟨cs, rfl, hsz⟩ := okWide_struct ht hv
  obtain ⟨fuel, hf⟩ := h
  obtain ⟨ns, e, hfit⟩ := hr _ _ _ _ _ _ _ _ _ hf
  exact ⟨ns, by rw [← e]; simp [Value.cells], hfit⟩

theorem fits1 {k0 : IntKind} {ns : List Int} (h : Fits [k0] ns) : ∃ n0, ns = [n0] ∧ (Lit.int k0 n0).wf = true := by
  match ns, h with
  | [n0], h => exact ⟨n0, rfl, h.1⟩
theorem fits2 {k0 k1 : IntKind} {ns : List Int} (h : Fits [k0, k1] ns) : ∃ n0 n1, ns = [n0, n1] ∧ (Lit.int k0 n0).wf = true ∧ (Lit.int k1 n1).wf = true := by
  match ns, h with
  | [n0, n1], h => exact ⟨n0, n1, rfl, h.1, h.2.1⟩
theorem fits3 {k0 k1 k2 : IntKind} {ns : List Int} (h : Fits [k0, k1, k2] ns) : ∃ n0 n1 n2, ns = [n0, n1, n2] ∧ (Lit.int k0 n0).wf = true ∧ (Lit.int k1 n1).wf = true ∧ (Lit.int k2 n2).wf = true := by
  match ns, h with
  | [n0, n1, n2], h => exact ⟨n0, n1, n2, rfl, h.1, h.2.1, h.2.2.1⟩
theorem fits4 {k0 k1 k2 k3 : IntKind} {ns : List Int} (h : Fits [k0, k1, k2, k3] ns) : ∃ n0 n1 n2 n3, ns = [n0, n1, n2, n3] ∧ (Lit.int k0 n0).wf = true ∧ (Lit.int k1 n1).wf = true ∧ (Lit.int k2 n2).wf = true ∧ (Lit.int k3 n3).wf = true := by
  match ns, h with
  | [n0, n1, n2, n3], h => exact ⟨n0, n1, n2, n3, rfl, h.1, h.2.1, h.2.2.1, h.2.2.2.1⟩
theorem fits5 {k0 k1 k2 k3 k4 : IntKind} {ns : List Int} (h : Fits [k0, k1, k2, k3, k4] ns) : ∃ n0 n1 n2 n3 n4, ns = [n0, n1, n2, n3, n4] ∧ (Lit.int k0 n0).wf = true ∧ (Lit.int k1 n1).wf = true ∧ (Lit.int k2 n2).wf = true ∧ (Lit.int k3 n3).wf = true ∧ (Lit.int k4 n4).wf = true := by
  match ns, h with
  | [n0, n1, n2, n3, n4], h => exact ⟨n0, n1, n2, n3, n4, rfl, h.1, h.2.1, h.2.2.1, h.2.2.2.1, h.2.2.2.2.1⟩
end Go.Proofs.YtlhblhgbpaipaaaGreat.Args
