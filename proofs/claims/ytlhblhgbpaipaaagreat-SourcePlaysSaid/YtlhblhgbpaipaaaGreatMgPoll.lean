import Derived.Test.YtlhblhgbpaipaaaGreatMgMap
import Derived.BigRegion
import Derived.Deep.QuietTactic
import Derived.BigQuiet
import Derived.StillTailTactics
import Derived.Deep.RegionHeld3
import Derived.Deep.DeepCutAuto
import Derived.RangeFuncNested
import Derived.RangeFuncBound
import Derived.RangeFuncCalls
import Derived.RangeFuncLeaves
import Derived.RangeFuncBox
import Derived.Shelf.Abstract
import Derived.Shelf.RegionOpen
import Derived.OwnWalkIn
import Derived.TacticsInMore
import Derived.LoopNIn
import Derived.LoopIn
import Derived.Maps.AppendAt
/- PollBase -/
namespace Go.Proofs.YtlhblhgbpaipaaaGreat.Pl
open Go.RowKit
set_option linter.unusedVariables false
set_option linter.unusedSimpArgs false

/-- A descriptor's state. -/
structure St where
  g : Int
  waits : Bool
  ready : Bool
deriving DecidableEq
def St.val (s : St) : Value := .agg #[.int .i64 s.g, .bool s.waits, .bool s.ready]
def St.zero : St := ⟨0, false, false⟩

section
variable {α : Type}
def aput (l : List (Int × α)) (k : Int) (v : α) : List (Int × α) := if k ∈ l.map (·.1) then l.map (fun p => if p.1 = k then (k, v) else p) else l ++ [(k, v)]
def adel (l : List (Int × α)) (k : Int) : List (Int × α) := l.filter fun p => p.1 ≠ k
def alook (l : List (Int × α)) (k : Int) : Option α := (l.find? fun p => p.1 = k).map (·.2)
def enc (f : α → Value) (l : List (Int × α)) : List (Int × Value) := l.map fun p => (p.1, f p.2)
variable {f : α → Value} {l : List (Int × α)} {k j : Int} {v : α}
theorem enc_keys : (enc f l).map (·.1) = l.map (·.1) := by simp [enc, Function.comp_def]
theorem enc_len : (enc f l).length = l.length := by simp [enc]
theorem enc_put : MapI.put (enc f l) k (f v) = enc f (aput l k v) := by
  unfold MapI.put aput
  rw [enc_keys]
  by_cases h : k ∈ l.map (·.1)
  · rw [if_pos h, if_pos h]
    simp only [enc, List.map_map]
    apply List.map_congr_left
    intro p _
    simp only [Function.comp_def]
    split <;> rfl
  · rw [if_neg h, if_neg h]; simp [enc]
theorem enc_del : MapI.del (enc f l) k = enc f (adel l k) := by
  unfold MapI.del adel enc; rw [List.filter_map]; rfl
theorem enc_look : MapI.look (enc f l) k = (alook l k).map f := by
  unfold MapI.look alook enc
  induction l with
  | nil => rfl
  | cons p t ih =>
    by_cases h : p.1 = k
    · simp [h]
    · simp [h] at ih ⊢; exact ih
theorem enc_putU : MapU.put (enc f l) k (f v) = enc f (aput l k v) := enc_put
theorem enc_delU : MapU.del (enc f l) k = enc f (adel l k) := enc_del
theorem enc_lookU : MapU.look (enc f l) k = (alook l k).map f := enc_look

theorem alook_none : alook l k = none ↔ k ∉ l.map (·.1) := by
  unfold alook
  rw [Option.map_eq_none_iff, List.find?_eq_none]
  simp only [List.mem_map, not_exists, not_and]
  constructor
  · intro h p hp e; exact h p hp (by simpa using e)
  · intro h p hp e; exact h p hp (by simpa using e)
theorem alook_some_mem (h : alook l k = some v) : (k, v) ∈ l := by
  unfold alook at h
  obtain ⟨p, hp, rfl⟩ := Option.map_eq_some_iff.1 h
  have h1 := List.find?_some hp
  have h2 := List.mem_of_find?_eq_some hp
  have : p.1 = k := by simpa using h1
  rw [← this]; exact h2
theorem alook_mem (hn : (l.map (·.1)).Nodup) (h : (k, v) ∈ l) : alook l k = some v := by
  induction l with
  | nil => cases h
  | cons p t ih =>
    simp only [List.map_cons, List.nodup_cons] at hn
    rcases List.mem_cons.1 h with rfl | h
    · simp [alook]
    · have : p.1 ≠ k := fun e => hn.1 (by rw [e]; exact List.mem_map.2 ⟨_, h, rfl⟩)
      have e : alook (p :: t) k = alook t k := by simp [alook, this]
      rw [e]; exact ih hn.2 h
theorem alook_put : alook (aput l k v) j = if j = k then some v else alook l j := by
  unfold aput
  by_cases h : k ∈ l.map (·.1)
  · rw [if_pos h]
    induction l with
    | nil => simp at h
    | cons p t ih =>
      by_cases hp : p.1 = k
      · by_cases hj : j = k
        · simp [alook, hp, hj]
        · have hkj : ¬ k = j := fun e => hj e.symm
          have e1 : alook (List.map (fun p => if p.1 = k then (k, v) else p) (p :: t)) j = alook (List.map (fun p => if p.1 = k then (k, v) else p) t) j := by simp [alook, hp, hkj]
          have e2 : alook (p :: t) j = alook t j := by simp [alook, hp, hkj]
          rw [if_neg hj, e1, e2]
          by_cases ht : k ∈ t.map (·.1)
          · have := ih ht; rw [if_neg hj] at this; exact this
          · have : t.map (fun p => if p.1 = k then (k, v) else p) = t := by
              conv => rhs; rw [← List.map_id t]
              apply List.map_congr_left
              intro q hq
              have : q.1 ≠ k := fun e => ht (List.mem_map.2 ⟨q, hq, e⟩)
              simp [this]
            rw [this]
      · have ht : k ∈ t.map (·.1) := by simpa [Ne.symm hp, eq_comm] using h
        have := ih ht
        by_cases hpj : p.1 = j
        · have : j ≠ k := fun e => hp (by rw [hpj, e])
          simp [alook, hp, hpj, this]
        · have e1 : alook (List.map (fun p => if p.1 = k then (k, v) else p) (p :: t)) j = alook (List.map (fun p => if p.1 = k then (k, v) else p) t) j := by simp [alook, hp, hpj]
          have e2 : alook (p :: t) j = alook t j := by simp [alook, hpj]
          rw [e1, e2]; exact this
  · rw [if_neg h]
    have hk := alook_none.2 h
    by_cases hj : j = k
    · subst hj
      rw [if_pos rfl]
      unfold alook at hk ⊢
      rw [Option.map_eq_none_iff] at hk
      simp [List.find?_append, hk]
    · rw [if_neg hj]
      have hkj : ¬ k = j := fun e => hj e.symm
      simp [alook, List.find?_append, hkj]
theorem alook_del : alook (adel l k) j = if j = k then none else alook l j := by
  by_cases hj : j = k
  · subst hj
    rw [if_pos rfl, alook_none]
    simp [adel]
  · rw [if_neg hj]
    unfold adel
    induction l with
    | nil => rfl
    | cons p t ih =>
      by_cases hp : p.1 = k
      · rw [List.filter_cons_of_neg (by simp [hp])]
        have hkj : ¬ k = j := fun e => hj e.symm
        have : alook (p :: t) j = alook t j := by simp [alook, hp, hkj]
        rw [this]; exact ih
      · rw [List.filter_cons_of_pos (by simpa using hp)]
        by_cases hpj : p.1 = j
        · simp [alook, hpj]
        · have e1 : ∀ t', alook (p :: t') j = alook t' j := fun t' => by simp [alook, hpj]
          rw [e1, e1]; exact ih
theorem aput_keys : (aput l k v).map (·.1) = if k ∈ l.map (·.1) then l.map (·.1) else l.map (·.1) ++ [k] := by
  unfold aput
  by_cases h : k ∈ l.map (·.1)
  · rw [if_pos h, if_pos h, List.map_map]
    apply List.map_congr_left
    intro p _
    simp only [Function.comp_def]
    split
    · next e => exact e.symm
    · rfl
  · rw [if_neg h, if_neg h]; simp
theorem aput_len : (aput l k v).length = if k ∈ l.map (·.1) then l.length else l.length + 1 := by
  have := congrArg List.length (aput_keys (l := l) (k := k) (v := v))
  rw [List.length_map] at this
  rw [this]; split <;> simp
end
end Go.Proofs.YtlhblhgbpaipaaaGreat.Pl

/- PollAsk -/
namespace Go.Proofs.YtlhblhgbpaipaaaGreat.Pl
open Go.RowKit
set_option linter.unusedVariables false
set_option linter.unusedSimpArgs false

abbrev TP : TypeId := 102
abbrev TS : TypeId := 113
abbrev u16 (x : Int) : Value := .int .u16 x
/-- A poll at block pb: its two maps, in blocks fb and wb. -/
structure IsPl (w : World) (base pb fb wb : Nat) (F : List (Int × St)) (G : List (Int × Int)) : Prop where
  cells : w.heap[pb]? = some (.cells #[.map (some fb), .map (some wb)] TP (0, 0))
  fds : MapU.IsMap w fb (enc St.val F)
  who : MapI.IsMap w wb (enc u16 G)
  apart : pb ≠ fb ∧ pb ≠ wb ∧ fb ≠ wb
  low : base ≤ pb ∧ base ≤ fb ∧ base ≤ wb
section
variable {w : World} {base pb fb wb : Nat} {F : List (Int × St)} {G : List (Int × Int)}
theorem IsPl.c0 (h : IsPl w base pb fb wb F G) : w.cell? ⟨pb, 0, none⟩ = some (.map (some fb)) := cell_of_row _ _ 0 _ _ _ h.cells
theorem IsPl.c1 (h : IsPl w base pb fb wb F G) : w.cell? ⟨pb, 1, none⟩ = some (.map (some wb)) := cell_of_row _ _ 1 _ _ _ h.cells
theorem IsPl.lt (h : IsPl w base pb fb wb F G) : pb < w.heap.size ∧ fb < w.heap.size ∧ wb < w.heap.size := ⟨(Array.getElem?_eq_some_iff.1 h.cells).1, h.fds.lt, h.who.lt⟩
theorem IsPl.kept {w' : World} (h : IsPl w base pb fb wb F G) (h1 : w'.heap[pb]? = w.heap[pb]?) (h2 : w'.heap[fb]? = w.heap[fb]?) (h3 : w'.heap[wb]? = w.heap[wb]?) : IsPl w' base pb fb wb F G :=
  ⟨h1.trans h.cells, h.fds.heap h2, h.who.heap h3, h.apart, h.low⟩
theorem IsPl.grown {w' : World} (h : IsPl w base pb fb wb F G) (hg : w.grownBy w' none) : IsPl w' base pb fb wb F G :=
  h.kept (hg.block _ h.lt.1 (by simp)) (hg.block _ h.lt.2.1 (by simp)) (hg.block _ h.lt.2.2 (by simp))
theorem IsPl.nodup (h : IsPl w base pb fb wb F G) : (F.map (·.1)).Nodup := by have := h.fds.nodup; rwa [enc_keys] at this
theorem IsPl.nodupG (h : IsPl w base pb fb wb F G) : (G.map (·.1)).Nodup := by have := h.who.nodup; rwa [enc_keys] at this
theorem zeroS (w : World) : (zeroValue TS).run Tryz.prog w = .ok St.zero.val w := by kernel_rfl
theorem zeroN (w : World) : (zeroValue 37).run Tryz.prog w = .ok (.int .u16 0) w := by kernel_rfl
/-- What is known of a descriptor. -/
def stOf (F : List (Int × St)) (fd : Int) : St := (alook F fd).getD .zero
theorem look_st (F : List (Int × St)) (fd : Int) : (MapU.look (enc St.val F) fd).getD St.zero.val = (stOf F fd).val := by
  rw [enc_lookU]; unfold stOf; cases alook F fd <;> rfl
theorem grown_none {a b c : World} (h : a.grownBy b none) (k : b.grownBy c none) : a.grownBy c none :=
  ⟨k.os.trans h.os, k.tape.trans h.tape, k.output.trans h.output, Nat.le_trans h.size k.size, fun j hj hne => (k.block j (Nat.lt_of_lt_of_le hj h.size) hne).trans (h.block j hj hne)⟩

theorem phas_is (h : IsPl w base pb fb wb F G) (g : Int) : Calls Tryz.prog 37 #[.pointer (some ⟨pb, 0, none⟩), .int .i64 g] w fun e w' => e = .returned (.bool (alook G g).isSome) ∧ w = w' := by
  have c1 := h.c1
  have HM := Lib.hid h.who
  obtain ⟨r, hr⟩ : ∃ r, (alook G g).isSome = r := ⟨_, rfl⟩
  have hl : (MapI.look (enc u16 G) g).isSome = r := by rw [enc_look, ← hr]; cases alook G g <;> rfl
  obtain ⟨v, hv⟩ : ∃ v, (MapI.look (enc u16 G) g).getD (.int .u16 0) = .int .u16 v := by
    rw [enc_look]; cases alook G g with
    | none => exact ⟨0, rfl⟩
    | some x => exact ⟨x, rfl⟩
  have HL := Lib.hid (And.intro hl hv)
  rw [hr]
  clear h hr hl hv
  go_enter Tryz.func37, Tryz.ntmps37
  go_wp2_with (at_lookup; refine MapI.wpList_lookok rfl _ _ 100 3 37 rfl Tryz.underlying100 Tryz.underlying3 HM.out rfl g rfl (zeroN _) (.int .u16 v) HL.out.2 r HL.out.1 ?_)
  go_ret
  exact ⟨rfl, rfl⟩
set_option maxHeartbeats 1000000 in
theorem pfull_is (h : IsPl w base pb fb wb F G) (fd : Int) : Calls Tryz.prog 67 #[.pointer (some ⟨pb, 0, none⟩), .int .u16 fd] w fun e w' => e = .returned (.bool (!(alook F fd).isSome && decide (1024 ≤ F.length))) ∧ w.grownBy w' none := by
  have c0 := h.c0
  have hlt := h.lt.1
  have HM := Lib.hid h.fds
  obtain ⟨n, hn⟩ : ∃ n, F.length = n := ⟨_, rfl⟩
  have hln : ∀ W ty, W.heap[fb]? = w.heap[fb]? → (Builtin.len_ #[99] ty #[.map (some fb)]).run Tryz.prog W = .ok (.int .i64 n) W := fun W ty e => by
    have := MapU.run_len (h.fds.heap e) Tryz.underlying99 _ ty rfl
    rwa [enc_len, hn] at this
  have hln2 : ∀ ty, (Builtin.len_ #[99] ty #[.map (some fb)]).run Tryz.prog (w.alloc (.cells #[.int .i64 (stOf F fd).g, .bool (stOf F fd).waits, .bool (stOf F fd).ready] TS)) = .ok (.int .i64 n) (w.alloc (.cells #[.int .i64 (stOf F fd).g, .bool (stOf F fd).waits, .bool (stOf F fd).ready] TS)) := fun ty => hln _ ty (heap_alloc_old _ _ h.lt.2.1)
  obtain ⟨r, hr⟩ : ∃ r, (alook F fd).isSome = r := ⟨_, rfl⟩
  have hl : (MapU.look (enc St.val F) fd).isSome = r := by rw [enc_lookU, ← hr]; cases alook F fd <;> rfl
  have hv := look_st F fd
  have HL := Lib.hid (And.intro hl hv)
  rw [hr, hn]
  generalize stOf F fd = s at *
  obtain ⟨sg, sw, sr⟩ := s
  clear h hr hl hv hln hn
  cases r with
  | true =>
    go_enter Tryz.func67, Tryz.ntmps67
    go_wp2_with (at_lookup; refine MapU.wpList_lookok rfl _ _ 99 37 TS rfl Tryz.underlying99 Tryz.underlying37 HM.out rfl fd rfl (zeroS _) (St.val ⟨sg, sw, sr⟩) HL.out.2 true HL.out.1 ?_; unfold St.val)
    go_ret
    exact ⟨rfl, World.grownBy_alloc _ _ _⟩
  | false =>
    go_enter Tryz.func67, Tryz.ntmps67
    go_wp2_with (at_lookup; refine MapU.wpList_lookok rfl _ _ 99 37 TS rfl Tryz.underlying99 Tryz.underlying37 HM.out rfl fd rfl (zeroS _) (St.val ⟨sg, sw, sr⟩) HL.out.2 false HL.out.1 ?_; unfold St.val)
    go_ret
    exact ⟨by simp; omega, World.grownBy_alloc _ _ _⟩

/-- Is somebody due? -/
def dueL (F : List (Int × St)) : Bool := F.any fun p => p.2.waits && p.2.ready
set_option maxRecDepth 100000 in
set_option maxHeartbeats 2000000 in
theorem pdue_is (h : IsPl w base pb fb wb F G) : Calls Tryz.prog 32 #[.pointer (some ⟨pb, 0, none⟩)] w fun e w' => e = .returned (.bool (dueL F)) ∧ w.grownBy w' none := by
  have c0 := h.c0
  have H := Lib.hid h
  have hmm := h.fds
  clear h
  go_enter Tryz.func32, Tryz.ntmps32
  go_wp2_with (at_range; refine MapU.wpList_range rfl _ 99 37 TS rfl Tryz.underlying99 hmm rfl ?_; intro w0 hrg0 hg0 hs0)
  go_frame
  have H0 := Lib.hid (And.intro hrg0 hg0)
  clear hrg0 hg0 hs0 hmm c0
  go_loopw [4] (fun _ wr => ∃ (rest : List (Int × Value)), MapU.Ran wr fb w.heap.size (enc St.val F) rest ∧ (∀ p ∈ F, (p.1, St.val p.2) ∉ rest → (p.2.waits && p.2.ready) = false) ∧ w.grownBy wr none) (fun _ wr => wr.rangeLeft fb w.heap.size)
  case atStart => exact ⟨_, H0.out.1, fun p hp hn => absurd (List.mem_map.2 ⟨p, hp, rfl⟩) hn, H0.out.2⟩
  case round =>
    clear H0
    obtain ⟨rest, hrg, hno, hg⟩ := hrel
    have HR := Lib.hid (And.intro hno hg)
    clear hno hg
    go_wp2_with (at_next; refine MapU.wpList_next rfl _ rfl rfl hrg ?_ ?_)
    · intro hr0
      have hd : dueL F = false := by
        unfold dueL
        rw [List.any_eq_false]
        intro p hp
        have := HR.out.1 p hp (by rw [hr0]; simp)
        simpa using this
      have HD := Lib.hid hd
      clear hd hr0
      go_wp2
      go_ret
      exact ⟨by rw [HD.out]; rfl, HR.out.2⟩
    · intro k v w2 hkv hrg2 hg2 hs2 hen
      obtain ⟨p, hp, he⟩ := List.mem_map.1 (hrg.sub hkv)
      obtain ⟨pk, s⟩ := p
      obtain rfl : pk = k := congrArg Prod.fst he
      have hv : v = St.val s := (congrArg Prod.snd he).symm
      subst hv
      have HH := Lib.hid (And.intro hkv (And.intro hrg (And.intro hrg2 (And.intro hg2 hp))))
      have hgw : w.grownBy w2 none := ⟨hg2.os.trans HR.out.2.os, hg2.tape.trans HR.out.2.tape, hg2.output.trans HR.out.2.output, Nat.le_trans HR.out.2.size hg2.size, fun j hj hne => (hg2.block j (Nat.lt_of_lt_of_le hj HR.out.2.size) (fun e => by have := Option.some.inj e; omega)).trans (HR.out.2.block j hj hne)⟩
      have HW := Lib.hid hgw
      clear hkv hrg hrg2 hg2 hp he hgw
      obtain ⟨sg, sw, sr⟩ := s
      unfold St.val at hen ⊢
      have HA := Lib.hid (World.grownBy_alloc w2 (.cells #[.int .i64 sg, .bool sw, .bool sr] TS) none)
      have hal := heap_alloc_new w2 (.cells #[.int .i64 sg, .bool sw, .bool sr] TS)
      have hR3 : Hid (MapU.Ran (w2.alloc (.cells #[.int .i64 sg, .bool sw, .bool sr] TS)) fb w.heap.size (enc St.val F) (rest.filter fun p => !decide (p.1 = pk))) := Lib.hid (HH.out.2.2.1.kept (heap_alloc_old _ _ HH.out.2.2.1.lt.1) (heap_alloc_old _ _ HH.out.2.2.1.lt.2))
      have HB := Lib.hid hal
      clear hal
      have hno2 : (sw && sr) = false → ∀ p ∈ F, (p.1, St.val p.2) ∉ (rest.filter fun p => !decide (p.1 = pk)) → (p.2.waits && p.2.ready) = false := fun hs p hp hn => by
        by_cases hpk : p.1 = pk
        · have e1 := alook_mem H.out.nodup (show (p.1, p.2) ∈ F from hp)
          have e2 := alook_mem H.out.nodup HH.out.2.2.2.2
          rw [hpk, e2] at e1
          rw [← Option.some.inj e1]; exact hs
        · exact HR.out.1 p hp (fun hm => hn (List.mem_filter.2 ⟨hm, by simpa using hpk⟩))
      have HN := Lib.hid hno2
      have hms : (wr.rangeLeft fb w.heap.size) = rest.length := HH.out.2.1.left_eq
      have HM := Lib.hid hms
      have HL : Hid ((rest.filter fun p => !decide (p.1 = pk)).length < rest.length) := Lib.hid (List.length_filter_lt_length_iff_exists.2 ⟨_, HH.out.1, by simp⟩)
      clear hno2 hms hs2
      cases sw <;> cases sr
      · go_wp2_with fail
        go_roundw
        case rel => exact ⟨_, hR3.out, HN.out rfl, grown_none HW.out HA.out⟩
        case measure => rw [hR3.out.left_eq, HM.out]; exact HL.out
      · go_wp2_with fail
        go_roundw
        case rel => exact ⟨_, hR3.out, HN.out rfl, grown_none HW.out HA.out⟩
        case measure => rw [hR3.out.left_eq, HM.out]; exact HL.out
      · go_wp2_with fail
        go_roundw
        case rel => exact ⟨_, hR3.out, HN.out rfl, grown_none HW.out HA.out⟩
        case measure => rw [hR3.out.left_eq, HM.out]; exact HL.out
      · have hd : dueL F = true := List.any_eq_true.2 ⟨_, HH.out.2.2.2.2, rfl⟩
        have HD := Lib.hid hd
        clear hd
        go_wp2_with fail
        refine bodyPost_ret (results_tmp rfl _ _ _) rfl ?_
        exact ⟨by rw [HD.out]; rfl, grown_none HW.out HA.out⟩
end
end Go.Proofs.YtlhblhgbpaipaaaGreat.Pl

/- PollDo -/
namespace Go.Proofs.YtlhblhgbpaipaaaGreat.Pl
open Go.RowKit
set_option linter.unusedVariables false
set_option linter.unusedSimpArgs false

/-- Besides the two maps nothing that was there is other than it was. -/
structure PFr (w w' : World) (fb wb : Nat) : Prop where
  os : w'.os = w.os
  tape : w'.tape = w.tape
  output : w'.output = w.output
  size : w.heap.size ≤ w'.heap.size
  block : ∀ k, k < w.heap.size → k ≠ fb → k ≠ wb → w'.heap[k]? = w.heap[k]?
theorem PFr.refl (w : World) (fb wb : Nat) : PFr w w fb wb := ⟨rfl, rfl, rfl, Nat.le_refl _, fun _ _ _ _ => rfl⟩
theorem PFr.of {w w' : World} {fb wb : Nat} {r : Option Nat} (h : w.grownBy w' r) (hr : r = none ∨ r = some fb ∨ r = some wb) : PFr w w' fb wb :=
  ⟨h.os, h.tape, h.output, h.size, fun k hk h1 h2 => h.block k hk (fun e => by rcases hr with rfl | rfl | rfl <;> cases e <;> simp at h1 h2)⟩
theorem PFr.trans {a b c : World} {fb wb : Nat} (h : PFr a b fb wb) (k : PFr b c fb wb) : PFr a c fb wb :=
  ⟨k.os.trans h.os, k.tape.trans h.tape, k.output.trans h.output, Nat.le_trans h.size k.size, fun j hj h1 h2 => (k.block j (Nat.lt_of_lt_of_le hj h.size) h1 h2).trans (h.block j hj h1 h2)⟩
theorem PFr.below {w w' : World} {fb wb n : Nat} (h : PFr w w' fb wb) (h1 : n ≤ fb) (h2 : n ≤ wb) (hn : n ≤ w.heap.size) : Below n w w' :=
  ⟨h.os, h.tape, h.output, h.size, fun k hk => h.block k (by omega) (by omega) (by omega)⟩

section
variable {w : World} {base pb fb wb : Nat} {F : List (Int × St)} {G : List (Int × Int)}
theorem IsPl.putF {w' : World} (h : IsPl w base pb fb wb F G) {F' : List (Int × St)} (hm : MapU.IsMap w' fb (enc St.val F')) (hg : w.grownBy w' (some fb)) : IsPl w' base pb fb wb F' G :=
  ⟨(hg.block _ h.lt.1 (fun e => h.apart.1 (Option.some.inj e))).trans h.cells, hm, h.who.heap (hg.block _ h.lt.2.2 (fun e => h.apart.2.2 (Option.some.inj e).symm)), h.apart, h.low⟩
theorem IsPl.putG {w' : World} (h : IsPl w base pb fb wb F G) {G' : List (Int × Int)} (hm : MapI.IsMap w' wb (enc u16 G')) (hg : w.grownBy w' (some wb)) : IsPl w' base pb fb wb F G' :=
  ⟨(hg.block _ h.lt.1 (fun e => h.apart.2.1 (Option.some.inj e))).trans h.cells, h.fds.heap (hg.block _ h.lt.2.1 (fun e => h.apart.2.2 (Option.some.inj e))), hm, h.apart, h.low⟩
theorem IsPl.drew (h : IsPl w base pb fb wb F G) : IsPl w.drew base pb fb wb F G := h.kept rfl rfl rfl

set_option maxHeartbeats 1000000 in
theorem pnew_is (w : World) (base : Nat) (hb : base ≤ w.heap.size) : Calls Tryz.prog 20 #[] w fun e w' => ∃ pb fb wb, e = .returned (.pointer (some ⟨pb, 0, none⟩)) ∧ IsPl w' base pb fb wb [] [] ∧ w.grownBy w' none ∧ w.heap.size ≤ pb ∧ w.heap.size ≤ fb ∧ w.heap.size ≤ wb := by
  have hmm := @run_makeMap Tryz.prog
  go_enter Tryz.func20, Tryz.ntmps20
  go_wp2
  go_ret
  have e0 : ((((w.alloc (.map #[] 0)).alloc (.map #[] 0)).alloc (.cells #[.map (some w.heap.size), .map (some (w.heap.size + 1))] TP))).heap[w.heap.size]? = some (.map #[] 0) := (heap_alloc_old _ _ (by simp; omega)).trans ((heap_alloc_old _ _ (by simp)).trans (heap_alloc_new _ _))
  have e1 : ((((w.alloc (.map #[] 0)).alloc (.map #[] 0)).alloc (.cells #[.map (some w.heap.size), .map (some (w.heap.size + 1))] TP))).heap[w.heap.size + 1]? = some (.map #[] 0) := (heap_alloc_old _ _ (by simp)).trans (by have := heap_alloc_new (w.alloc (.map #[] 0)) (.map #[] 0); simpa using this)
  have e2 : ((((w.alloc (.map #[] 0)).alloc (.map #[] 0)).alloc (.cells #[.map (some w.heap.size), .map (some (w.heap.size + 1))] TP))).heap[w.heap.size + 2]? = some (.cells #[.map (some w.heap.size), .map (some (w.heap.size + 1))] TP (0, 0)) := by have := heap_alloc_new ((w.alloc (.map #[] 0)).alloc (.map #[] 0)) (.cells #[.map (some w.heap.size), .map (some (w.heap.size + 1))] TP); simpa using this
  refine ⟨w.heap.size + 2, w.heap.size, w.heap.size + 1, rfl, ⟨e2, ⟨#[], 0, e0, Go.MapKept.stamped_empty 0, rfl⟩, ⟨#[], 0, e1, Go.MapKept.stamped_empty 0, rfl⟩, by omega, by omega⟩, ?_, by omega, by omega, by omega⟩
  exact grown_none (grown_none (World.grownBy_alloc _ _ _) (World.grownBy_alloc _ _ _)) (World.grownBy_alloc _ _ _)

theorem st_flat (s : St) : s.val = .agg #[.int .i64 s.g, .bool s.waits, .bool s.ready] := rfl
abbrev boxS (w : World) (s : St) : World := w.alloc (.cells #[.int .i64 s.g, .bool s.waits, .bool s.ready] TS)
set_option maxRecDepth 100000 in
set_option maxHeartbeats 1000000 in
theorem wait_arg (h : IsPl w base pb fb wb F G) (fd g : Int) (hg : g < 0 ∨ 4096 ≤ g) : Calls Tryz.prog 49 #[.pointer (some ⟨pb, 0, none⟩), .int .u16 fd, .int .i64 g] w fun e w' => e = .returned (.int .i64 1) ∧ w.grownBy w' none := by
  have c0 := h.c0
  have HM := Lib.hid h.fds
  have HL := Lib.hid (look_st F fd)
  generalize stOf F fd = s at *
  obtain ⟨sg, sw, sr⟩ := s
  clear h
  rcases hg with hg | hg
  · go_enter Tryz.func49, Tryz.ntmps49
    go_wp2_with (at_lookup; refine MapU.wpList_look rfl _ _ 99 37 TS rfl Tryz.underlying99 Tryz.underlying37 HM.out rfl fd rfl (zeroS _) (St.val ⟨sg, sw, sr⟩) HL.out ?_; unfold St.val)
    refine bodyPost_ret (results_tmp rfl _ _ _) rfl ?_
    exact ⟨rfl, World.grownBy_alloc _ _ _⟩
  · have hg0 : ¬ g < 0 := by omega
    go_enter Tryz.func49, Tryz.ntmps49
    go_wp2_with (at_lookup; refine MapU.wpList_look rfl _ _ 99 37 TS rfl Tryz.underlying99 Tryz.underlying37 HM.out rfl fd rfl (zeroS _) (St.val ⟨sg, sw, sr⟩) HL.out ?_; unfold St.val)
    refine bodyPost_ret (results_tmp rfl _ _ _) rfl ?_
    exact ⟨rfl, World.grownBy_alloc _ _ _⟩
set_option maxRecDepth 100000 in
set_option maxHeartbeats 1000000 in
theorem wait_same (h : IsPl w base pb fb wb F G) (fd g : Int) (hg0 : 0 ≤ g) (hg1 : g < 4096) (hs : (stOf F fd).waits = true ∨ (alook G g).isSome = true) : Calls Tryz.prog 49 #[.pointer (some ⟨pb, 0, none⟩), .int .u16 fd, .int .i64 g] w fun e w' => e = .returned (.int .i64 8) ∧ w.grownBy w' none := by
  have c0 := h.c0
  have H := Lib.hid h
  have HM := Lib.hid h.fds
  have HL := Lib.hid (look_st F fd)
  have hlt := h.lt.1
  generalize stOf F fd = s at *
  obtain ⟨sg, sw, sr⟩ := s
  have n0 : ¬ g < 0 := by omega
  have n1 : ¬ 4096 ≤ g := by omega
  have HA := Lib.hid (h.grown (World.grownBy_alloc w (.cells #[.int .i64 sg, .bool sw, .bool sr] TS) none))
  clear h
  cases sw with
  | true =>
    clear hs
    go_enter Tryz.func49, Tryz.ntmps49
    go_wp2_with (at_lookup; refine MapU.wpList_look rfl _ _ 99 37 TS rfl Tryz.underlying99 Tryz.underlying37 HM.out rfl fd rfl (zeroS _) (St.val ⟨sg, true, sr⟩) HL.out ?_; unfold St.val)
    refine bodyPost_ret (results_tmp rfl _ _ _) rfl ?_
    exact ⟨rfl, World.grownBy_alloc _ _ _⟩
  | false =>
    have hq : (alook G g).isSome = true := by rcases hs with h | h; (cases h); exact h
    have HQ := Lib.hid hq
    clear hs hq
    go_enter Tryz.func49, Tryz.ntmps49
    go_wp2_with (at_lookup; refine MapU.wpList_look rfl _ _ 99 37 TS rfl Tryz.underlying99 Tryz.underlying37 HM.out rfl fd rfl (zeroS _) (St.val ⟨sg, false, sr⟩) HL.out ?_; unfold St.val)
    refine (phas_is HA.out g).mono ?_
    rintro e w1 ⟨rfl, rfl⟩
    rw [HQ.out]
    go_wp2_with fail
    refine bodyPost_ret (results_tmp rfl _ _ _) rfl ?_
    exact ⟨rfl, World.grownBy_alloc _ _ _⟩
end
end Go.Proofs.YtlhblhgbpaipaaaGreat.Pl

/- PollDo2 -/
namespace Go.Proofs.YtlhblhgbpaipaaaGreat.Pl
open Go.RowKit
set_option linter.unusedVariables false
set_option linter.unusedSimpArgs false

section
variable {w : World} {base pb fb wb : Nat} {F : List (Int × St)} {G : List (Int × Int)}
/-- Is there no room for one? -/
def fullL (F : List (Int × St)) (fd : Int) : Bool := !(alook F fd).isSome && decide (1024 ≤ F.length)
set_option maxRecDepth 100000 in
set_option maxHeartbeats 1000000 in
theorem wait_full (h : IsPl w base pb fb wb F G) (fd g : Int) (hg0 : 0 ≤ g) (hg1 : g < 4096) (hs : (stOf F fd).waits = false) (hq : (alook G g).isSome = false) (hf : fullL F fd = true) : Calls Tryz.prog 49 #[.pointer (some ⟨pb, 0, none⟩), .int .u16 fd, .int .i64 g] w fun e w' => e = .returned (.int .i64 2) ∧ w.grownBy w' none := by
  have c0 := h.c0
  have HM := Lib.hid h.fds
  have HL := Lib.hid (look_st F fd)
  have hlt := h.lt.1
  have HQ := Lib.hid hq
  have HF := Lib.hid hf
  generalize stOf F fd = s at *
  obtain ⟨sg, sw, sr⟩ := s
  have n0 : ¬ g < 0 := by omega
  have n1 : ¬ 4096 ≤ g := by omega
  have HA := Lib.hid (h.grown (World.grownBy_alloc w (.cells #[.int .i64 sg, .bool sw, .bool sr] TS) none))
  obtain rfl : sw = false := hs
  clear h hq hf
  go_enter Tryz.func49, Tryz.ntmps49
  go_wp2_with (at_lookup; refine MapU.wpList_look rfl _ _ 99 37 TS rfl Tryz.underlying99 Tryz.underlying37 HM.out rfl fd rfl (zeroS _) (St.val ⟨sg, false, sr⟩) HL.out ?_; unfold St.val)
  refine (phas_is HA.out g).mono ?_
  rintro e w1 ⟨rfl, rfl⟩
  rw [HQ.out]
  go_wp2_with fail
  refine (pfull_is HA.out fd).mono ?_
  rintro e w2 ⟨rfl, hg2⟩
  rw [show (!(alook F fd).isSome && decide (1024 ≤ F.length)) = true from HF.out]
  have HG := Lib.hid (grown_none (World.grownBy_alloc w _ none) hg2)
  clear hg2
  go_wp2_with fail
  refine bodyPost_ret (results_tmp rfl _ _ _) rfl ?_
  exact ⟨rfl, HG.out⟩
set_option maxRecDepth 100000 in
set_option maxHeartbeats 2000000 in
theorem wait_ok (h : IsPl w base pb fb wb F G) (fd g : Int) (hg0 : 0 ≤ g) (hg1 : g < 4096) (hs : (stOf F fd).waits = false) (hq : (alook G g).isSome = false) (hf : fullL F fd = false) : Calls Tryz.prog 49 #[.pointer (some ⟨pb, 0, none⟩), .int .u16 fd, .int .i64 g] w fun e w' => e = .returned (.int .i64 0) ∧ IsPl w' base pb fb wb (aput F fd ⟨g, true, (stOf F fd).ready⟩) (aput G g fd) ∧ PFr w w' fb wb := by
  have c0 := h.c0
  have H := Lib.hid h
  have HM := Lib.hid h.fds
  have HL := Lib.hid (look_st F fd)
  have hlt := h.lt.1
  have HQ := Lib.hid hq
  have HF := Lib.hid hf
  generalize stOf F fd = s at *
  obtain ⟨sg, sw, sr⟩ := s
  have n0 : ¬ g < 0 := by omega
  have n1 : ¬ 4096 ≤ g := by omega
  have HA := Lib.hid (h.grown (World.grownBy_alloc w (.cells #[.int .i64 sg, .bool sw, .bool sr] TS) none))
  obtain rfl : sw = false := hs
  clear h hq hf
  go_enter Tryz.func49, Tryz.ntmps49
  go_wp2_with (at_lookup; refine MapU.wpList_look rfl _ _ 99 37 TS rfl Tryz.underlying99 Tryz.underlying37 HM.out rfl fd rfl (zeroS _) (St.val ⟨sg, false, sr⟩) HL.out ?_; unfold St.val)
  refine (phas_is HA.out g).mono ?_
  rintro e w1 ⟨rfl, rfl⟩
  rw [HQ.out]
  go_wp2_with fail
  refine (pfull_is HA.out fd).mono ?_
  rintro e w2 ⟨rfl, hg2⟩
  rw [show (!(alook F fd).isSome && decide (1024 ≤ F.length)) = false from HF.out]
  have HS : Hid (w2.heap[w.heap.size]? = some (.cells #[.int .i64 sg, .bool false, .bool sr] TS (0, 0))) := Lib.hid ((hg2.block w.heap.size (by simp) (by simp)).trans (heap_alloc_new _ _))
  have HG := Lib.hid (grown_none (World.grownBy_alloc w _ none) hg2)
  have HP := Lib.hid (HA.out.grown hg2)
  clear hg2 c0
  have c0 := HP.out.c0
  have c1 := HP.out.c1
  have d2 : w2.cell? ⟨w.heap.size, 2, none⟩ = some (.bool sr) := cell_of_row _ _ 2 _ _ _ HS.out
  go_wp2_with fail
  refine wp_region_still_tail 9 (by kernel_rfl) (by kernel_rfl) ?_
  simp only [List.take_succ_cons, List.take_zero, List.drop_succ_cons, List.drop_zero]
  change wpStill _ _ w2.drew _ _ _
  repeat still_step
  refine wpStill_nil ?_
  have hdr : w2.grownBy w2.drew none := ⟨rfl, rfl, rfl, Nat.le_refl _, fun _ _ _ => rfl⟩
  have HP2 := Lib.hid HP.out.drew
  have HD := Lib.hid (grown_none HG.out hdr)
  clear hdr c0 c1 d2
  go_wp2_with (first
    | (at_mapUpdate; refine MapU.wpList_put rfl _ _ _ 99 37 TS rfl Tryz.underlying99 Tryz.underlying37 HP2.out.fds rfl fd rfl (St.val ⟨g, true, sr⟩) rfl ?_; intro w3 hm3 hg3; rw [enc_putU] at hm3; have HP3 := Lib.hid (HP2.out.putF hm3 hg3); have HG3 := Lib.hid hg3; have c1 := HP3.out.c1; clear hm3 hg3)
    | (at_mapUpdate; refine MapI.wpList_put rfl _ _ _ 100 3 37 rfl Tryz.underlying100 Tryz.underlying3 HP3.out.who rfl g rfl (u16 fd) rfl ?_; intro w4 hm4 hg4; rw [enc_put] at hm4; have HP4 := Lib.hid (HP3.out.putG hm4 hg4); have HG4 := Lib.hid hg4; clear hm4 hg4))
  go_ret
  exact ⟨rfl, HP4.out, (PFr.of HD.out (.inl rfl)).trans ((PFr.of HG3.out (.inr (.inl rfl))).trans (PFr.of HG4.out (.inr (.inr rfl))))⟩
set_option maxRecDepth 100000 in
set_option maxHeartbeats 1000000 in
theorem ready_full (h : IsPl w base pb fb wb F G) (fd : Int) (hf : fullL F fd = true) : Calls Tryz.prog 52 #[.pointer (some ⟨pb, 0, none⟩), .int .u16 fd] w fun e w' => e = .returned (.int .i64 2) ∧ w.grownBy w' none := by
  have H := Lib.hid h
  have HF := Lib.hid hf
  clear h hf
  go_enter Tryz.func52, Tryz.ntmps52
  go_wp2_with fail
  refine (pfull_is H.out fd).mono ?_
  rintro e w2 ⟨rfl, hg2⟩
  rw [show (!(alook F fd).isSome && decide (1024 ≤ F.length)) = true from HF.out]
  have HG := Lib.hid hg2
  clear hg2
  go_wp2_with fail
  refine bodyPost_ret (results_tmp rfl _ _ _) rfl ?_
  exact ⟨rfl, HG.out⟩
set_option maxRecDepth 100000 in
set_option maxHeartbeats 2000000 in
theorem ready_ok (h : IsPl w base pb fb wb F G) (fd : Int) (hf : fullL F fd = false) : Calls Tryz.prog 52 #[.pointer (some ⟨pb, 0, none⟩), .int .u16 fd] w fun e w' => e = .returned (.int .i64 0) ∧ IsPl w' base pb fb wb (aput F fd { stOf F fd with ready := true }) G ∧ PFr w w' fb wb := by
  have H := Lib.hid h
  have HF := Lib.hid hf
  have HL := Lib.hid (look_st F fd)
  generalize stOf F fd = s at *
  obtain ⟨sg, sw, sr⟩ := s
  clear h hf
  go_enter Tryz.func52, Tryz.ntmps52
  go_wp2_with fail
  refine (pfull_is H.out fd).mono ?_
  rintro e w2 ⟨rfl, hg2⟩
  rw [show (!(alook F fd).isSome && decide (1024 ≤ F.length)) = false from HF.out]
  have HG := Lib.hid hg2
  have HP := Lib.hid (H.out.grown hg2)
  have c0 := HP.out.c0
  have hlt := HP.out.lt.1
  clear hg2
  go_wp2_with (at_lookup; refine MapU.wpList_look rfl _ _ 99 37 TS rfl Tryz.underlying99 Tryz.underlying37 HP.out.fds rfl fd rfl (zeroS _) (St.val ⟨sg, sw, sr⟩) HL.out ?_; unfold St.val)
  have HS := Lib.hid (heap_alloc_new w2 (.cells #[.int .i64 sg, .bool sw, .bool true] TS))
  have HA := Lib.hid (grown_none HG.out (World.grownBy_alloc w2 (.cells #[.int .i64 sg, .bool sw, .bool true] TS) none))
  have HP3 := Lib.hid (HP.out.grown (World.grownBy_alloc w2 (.cells #[.int .i64 sg, .bool sw, .bool true] TS) none))
  clear c0 hlt
  generalize w2.alloc (.cells #[.int .i64 sg, .bool sw, .bool true] TS) = W at *
  have c0 := HP3.out.c0
  have d0 : W.cell? ⟨w2.heap.size, 0, none⟩ = some (.int .i64 sg) := cell_of_row _ _ 0 _ _ _ HS.out
  have d1 : W.cell? ⟨w2.heap.size, 1, none⟩ = some (.bool sw) := cell_of_row _ _ 1 _ _ _ HS.out
  have d2 : W.cell? ⟨w2.heap.size, 2, none⟩ = some (.bool true) := cell_of_row _ _ 2 _ _ _ HS.out
  refine wp_region_still_tail 6 (by kernel_rfl) (by kernel_rfl) ?_
  simp only [List.take_succ_cons, List.take_zero, List.drop_succ_cons, List.drop_zero]
  change wpStill _ _ W.drew _ _ _
  repeat still_step
  refine wpStill_nil ?_
  have hdr : W.grownBy W.drew none := ⟨rfl, rfl, rfl, Nat.le_refl _, fun _ _ _ => rfl⟩
  have HP4 := Lib.hid HP3.out.drew
  have HD := Lib.hid (grown_none HA.out hdr)
  clear hdr c0 d0 d1 d2
  go_wp2_with (at_mapUpdate; refine MapU.wpList_put rfl _ _ _ 99 37 TS rfl Tryz.underlying99 Tryz.underlying37 HP4.out.fds rfl fd rfl (St.val ⟨sg, sw, true⟩) rfl ?_; intro w5 hm5 hg5; rw [enc_putU] at hm5; have HP5 := Lib.hid (HP4.out.putF hm5 hg5); have HG5 := Lib.hid hg5; clear hm5 hg5)
  go_ret
  exact ⟨rfl, HP5.out, (PFr.of HD.out (.inl rfl)).trans (PFr.of HG5.out (.inr (.inl rfl)))⟩
end
end Go.Proofs.YtlhblhgbpaipaaaGreat.Pl

/- PollSeq -/
namespace Go.Proofs.YtlhblhgbpaipaaaGreat.Pl
open Go.RowKit Go.Shelf
open Go.Proofs.YtlhblhgbpaipaaaGreat.MapU
set_option linter.unusedVariables false
attribute [local go_sem] Oper.semAt_some

abbrev KEYS : Nat := 77
theorem Ran.walk {w : World} {b r : Nat} {l rest : List (Int × Value)} (h : Ran w b r l rest) : ∃ o : Obj, w.heap[r]? = some o ∧ o.isWalk = true := by
  obtain ⟨es, c, s, seen, c0, h1, h2, h3, h4, h5⟩ := h
  exact ⟨_, h4, rfl⟩
theorem Ran.walks {w w' : World} {b r : Nat} {l rest : List (Int × Value)} (h : Ran w b r l rest) (k : KeepsWalks w w') : Ran w' b r l rest := by
  have h0 := h
  obtain ⟨es, c, s, seen, c0, h1, h2, h3, h4, h5⟩ := h
  exact h0.kept ((k.same _ _ h1 rfl).trans h1.symm) ((k.same _ _ h4 rfl).trans h4.symm)
/-- What has come and what is still to come are the map's. -/
theorem come {l rest : List (Int × Value)} {ys : List Int} {k : Int} {v : Value} (hn : (rest.map (·.1)).Nodup) (h : (ys ++ rest.map (·.1)).Perm (l.map (·.1))) (hk : (k, v) ∈ rest) :
    ((ys ++ [k]) ++ (rest.filter fun p => p.1 ≠ k).map (·.1)).Perm (l.map (·.1)) := by
  refine List.Perm.trans ?_ h
  rw [List.append_assoc]
  refine List.Perm.append_left ys ?_
  have : ∀ (rest : List (Int × Value)), (rest.map (·.1)).Nodup → (k, v) ∈ rest → (k :: (rest.filter fun p => p.1 ≠ k).map (·.1)).Perm (rest.map (·.1)) := by
    intro rest
    induction rest with
    | nil => intro _ h; cases h
    | cons p t ih =>
      intro hn hk
      simp only [List.map_cons, List.nodup_cons] at hn
      by_cases hp : p.1 = k
      · rw [List.filter_cons_of_neg (by simp [hp])]
        have : (t.filter fun p => p.1 ≠ k) = t := List.filter_eq_self.2 (fun q hq => by simp; rintro e; exact hn.1 (by rw [hp, ← e]; exact List.mem_map.2 ⟨q, hq, rfl⟩))
        rw [this, List.map_cons, hp]
      · rw [List.filter_cons_of_pos (by simpa using hp), List.map_cons, List.map_cons]
        rcases List.mem_cons.1 hk with e | hk
        · exact absurd (by rw [← e]) hp
        · exact (List.Perm.swap _ _ _).trans ((ih hn.2 hk).cons _)
  exact this rest hn hk
theorem nodup_rest {l rest : List (Int × Value)} {k : Int} (hn : (rest.map (·.1)).Nodup) : ((rest.filter fun p => p.1 ≠ k).map (·.1)).Nodup :=
  hn.sublist (List.Sublist.map _ List.filter_sublist)
theorem less_rest {rest : List (Int × Value)} {k : Int} {v : Value} (h : (k, v) ∈ rest) : (rest.filter fun p => p.1 ≠ k).length < rest.length := by
  have := List.length_filter_lt_length_iff_exists (l := rest) (p := fun p => decide (p.1 ≠ k))
  exact this.2 ⟨_, h, by simp⟩

set_option maxRecDepth 100000 in
set_option maxHeartbeats 2000000 in
theorem keys1_in (F : Fence) (n : Nat) (hf : F.fn KEYS) (hro : F.round = none) (hn : 1 ≤ n) (lb Bm b : Nat) (l : List (Int × Value)) (J Jx : List Int → World → Prop) (B : Nat)
    (hY : ∀ pre x W, J pre W → pre.length < l.length → YieldAt F (n - 1) Tryz.prog lb #[.int .u16 x] W fun e W' =>
      (e = .returned (.bool true) ∧ J (pre ++ [x]) W' ∧ KeepsWalks W W') ∨ (e = .returned (.bool false) ∧ Jx (pre ++ [x]) W'))
    (W : World) (hJ : AbidesFrom W.heap.size J) (hBm : W.cell? ⟨Bm, 0, none⟩ = some (.map (some b))) (hm : IsMap W b l) (h0 : J [] W) :
    CallsIn F n Tryz.prog KEYS #[.func (.yield lb) #[] #[], .pointer (some ⟨Bm, 0, none⟩)] W fun e W' => (∃ v, e = .returned v) ∧
      ((∃ ys : List Int, ys.Perm (l.map (·.1)) ∧ J ys W') ∨ (∃ pre, Jx pre W')) := by
  have HN := Lib.hid hm.nodup
  refine callsIn_of_wp Tryz.func77 rfl hf ?_ hro
  simp only [Tryz.ntmps77, List.size_toArray, List.length_cons, List.length_nil, Nat.reduceAdd, Nat.reduceSub, Array.replicate_succ, Array.replicate_zero, List.push_toArray, List.append_toArray, List.nil_append, List.cons_append]
  gi_wp2_with (first
    | (gi_at_range; refine wpListIn_range rfl _ 99 37 113 rfl Tryz.underlying99 hm rfl ?_; intro w0 hrg0 hg0 hs0)
    | gi_in)
  go_frame
  gi_loopw [3] (fun _ wr => ∃ (rest : List (Int × Value)) (ys : List Int), Ran wr b W.heap.size l rest ∧ (rest.map (·.1)).Nodup ∧ (ys ++ rest.map (·.1)).Perm (l.map (·.1)) ∧ J ys wr)
    (fun _ wr => wr.rangeLeft b W.heap.size)
  case atStart => exact ⟨l, [], hrg0, HN.out, by simp, hJ [] W w0 none h0 hg0 (fun r e => by cases e)⟩
  case round =>
    obtain ⟨rest, ys, hrg, hnd, hp, hJs⟩ := hrel
    have HP := Lib.hid (And.intro hnd hp)
    clear hnd hp
    gi_wp2_with (first
      | (gi_at_next; refine wpListIn_next rfl _ rfl rfl hrg ?_ ?_)
      | gi_in)
    · intro hr0
      gi_wp2
      go_end0
      exact ⟨⟨_, rfl⟩, .inl ⟨ys, by have := HP.out.2; rw [hr0] at this; simpa using this, hJs⟩⟩
    · intro k v w2 hkv hrg2 hg2 hs2 hen
      have hJ2 : J ys w2 := hJ ys wr w2 (some W.heap.size) hJs hg2 (fun r e => by cases e; exact ⟨Nat.le_refl _, Ran.walk hrg⟩)
      have hlen : ys.length < l.length := by
        have h1 := HP.out.2.length_eq
        have h2 := List.length_pos_of_mem hkv
        simp at h1; omega
      obtain ⟨fn, tmps, assign, body, hy, hR⟩ := hY ys k w2 hJ2 hlen
      have HH := Lib.hid (And.intro hkv (And.intro hrg hrg2))
      clear hs2 hkv hrg hrg2 hg2 hlen
      gi_wp2
      refine hR.mono ?_
      rintro e W3 (⟨rfl, hJ3, hk3⟩ | ⟨rfl, hJx3⟩)
      · gi_wp2
        have hrg3 := Ran.walks HH.out.2.2 hk3
        go_roundw
        case rel => exact ⟨_, ys ++ [k], hrg3, by simpa using nodup_rest (l := l) (k := k) HP.out.1, by simpa using come HP.out.1 HP.out.2 HH.out.1, hJ3⟩
        case measure => rw [hrg3.left_eq, HH.out.2.1.left_eq]; simpa using less_rest HH.out.1
      · gi_wp2
        refine bodyPost_ret (results_none rfl _ _ _) rfl ?_
        exact ⟨⟨_, rfl⟩, .inr ⟨_, hJx3⟩⟩

theorem keys_stops (F : Fence) (n : Nat) (hf : F.fn KEYS) (hro : F.round = none) (hn : 1 ≤ n) (Bm b : Nat) (l : List (Int × Value)) (w : World) (hBm : Bm < w.heap.size) (hc : w.cell? ⟨Bm, 0, none⟩ = some (.map (some b))) (hm : IsMap w b l) :
    SeqStopsK F n Tryz.prog KEYS #[.pointer (some ⟨Bm, 0, none⟩)] (fun x : Int => #[.int .u16 x]) KeepsWalks (fun ys => ys.Perm (l.map (·.1))) (fun _ => True) l.length w := fun lb J Jx W hW hJ _ hY h0 =>
  (keys1_in F n hf hro hn lb Bm b l J Jx 0 hY W hJ ((hW.cell (p := ⟨Bm, 0, none⟩) hBm).trans hc) (hm.below hW) h0).mono fun e W' ⟨he, h⟩ => ⟨he, h.imp id fun ⟨pre, h⟩ => ⟨pre, trivial, h⟩⟩

/-- maps.Keys: the map is boxed. -/
theorem keys_is (b : Nat) (w : World) :
    Calls Tryz.prog 64 #[.map (some b)] w fun e w' => e = .returned (.func (.func KEYS) #[] #[.pointer (some ⟨w.heap.size, 0, none⟩)]) ∧ w' = w.alloc (.cells #[.map (some b)] 99) := by
  go_enter Tryz.func64, Tryz.ntmps64
  go_wp2
  go_ret
  exact ⟨rfl, rfl⟩
end Go.Proofs.YtlhblhgbpaipaaaGreat.Pl
