/- A copy of a list of marks.
   Conditions: those that each theorem names. -/
import Derived.Test.YtehfinjcfjobeaaMarks
import Derived.Test.YtehfinjcfjobeaaBs
import Derived.Test.YtehfinjcfjobeaaPn
namespace Go.Proofs.Ytehfinjcfjobeaa
set_option maxRecDepth 100000
set_option linter.unusedVariables false
set_option linter.unusedSimpArgs false
open Go.RowKit Go.Rg
def rawM (ms : List (List UInt8)) : List (List Value) := ms.map (List.map byteV)
theorem rawM_sized {ms : List (List UInt8)} (h : Marks16 ms) : Sized 16 (rawM ms) := by
  intro c hc
  obtain ⟨m, hm, rfl⟩ := List.mem_map.1 hc
  exact ⟨by rw [List.length_map]; exact h m hm, byteV_one m⟩
theorem rawM_length (ms : List (List UInt8)) : (rawM ms).length = ms.length := List.length_map _
theorem marksAt_iff {w : World} {v : Value} {ms : List (List UInt8)} : MarksAt w v ms ↔ SlV 16 w v (rawM ms) := by
  unfold MarksAt SlV
  simp only [rawM_length]
  constructor
  · rintro ⟨p, cap, rfl, hc, hf⟩
    refine ⟨p, cap, rfl, hc, fun i c hi => ?_⟩
    unfold rawM at hi
    rw [List.getElem?_map, Option.map_eq_some_iff] at hi
    obtain ⟨m, hm, rfl⟩ := hi
    exact hf i m hm
  · rintro ⟨p, cap, rfl, hc, hf⟩
    refine ⟨p, cap, rfl, hc, fun i m hi => ?_⟩
    exact hf i _ (by unfold rawM; rw [List.getElem?_map, hi]; rfl)
theorem infoM : (Try.prog.info? 24).map (fun i => (i.zero, i.size, i.bytes)) = some (some (.agg zeroMark), 16, 16) := by kernel_rfl
set_option maxHeartbeats 2000000 in
theorem marks_clone (v : Value) (l : List (List UInt8)) (w : World) (h : MarksAt w v l) (h16 : Marks16 l) (hn : l.length ≤ 1000000000) :
    Calls Try.prog 46 #[v] w fun e w' => ∃ v', e = .returned v' ∧ OwnV 24 16 w' v' (rawM l) ∧ (∀ k, v'.ownBlock = some k → w.heap.size ≤ k) ∧ Below w.heap.size w w' := by
  have hs := marksAt_iff.1 h
  have hz := rawM_sized h16
  obtain ⟨p, cap, rfl, hc, hf⟩ := id h
  obtain ⟨i0, hi0, hz0, hz1, hz2⟩ := info_parts infoM
  have q29 : ∀ (w : World) (a : Option Addr) (n c n' c' : Nat), (binOp .eql 22 (.slice a n c) (.slice none n' c')).run Try.prog w = .ok (.bool a.isNone) w := fun w a n c n' c' => Lib.run_eql_slice_nil w _ _ a n c n' c' Try.underlying22
  go_enter Try.func46, Try.ntmps46
  cases p with
  | none =>
    have h0 : l = [] := by
      cases l with
      | nil => rfl
      | cons c l => obtain ⟨g, o, e, _⟩ := hf 0 c (by simp); cases e
    subst h0
    go_wp2_with fail
    go_ret
    refine ⟨.slice none 0 0, rfl, OwnV.nil _ _ _, ?_, Below.refl _ _⟩
    intro k hk
    simp [Value.ownBlock] at hk
  | some ad =>
    have hr : (w.alloc (.cells #[] 24)).ownsRow w.heap.size 24 16 (.slice (some ⟨w.heap.size, 0, none⟩) 0 0) 0 [] := World.ownsRow_made w #[] 0 (Nat.le_refl _) (Nat.zero_le _) rfl
    have hB := (Below.refl w.heap.size w).alloc (Nat.le_refl _) (.cells #[] 24)
    have hs1 := hs.below hB
    rw [← rawM_length] at hs1
    have HC := Lib.hid (hs1.cells hz)
    have hl : (rawM l).flatten.length = l.length * 16 := by rw [hz.flat, rawM_length]
    have hm : 0 + l.length ≤ maxLen := by unfold maxLen; omega
    have hm2 : (0 + l.length) * 16 ≤ 140737488355328 := by omega
    have hone := hz.one
    clear hf hs hs1
    go_wp2_with (at_builtin; refine wpList_append_own_at _ rfl _ _ 22 rfl w.heap.size 24 i0 (.agg zeroMark) 16 16 Try.underlying22 hi0 hz0 hz1 hz2 rfl (by decide) _ 0 [] rfl hr ad l.length cap (rawM l).flatten rfl hl HC.out hone hm hm2 hB.size ?_)
    intro v' w' ho hg hni hat
    have hB2 : Below w.heap.size w w' := hB.grown hg hB.size (fun k hk => by cases hk; exact Nat.le_refl _)
    go_wp2_with fail
    go_ret
    refine ⟨v', rfl, ?_, ?_, hB2⟩
    · have h0 := OwnV.mk (css := []) (dss := rawM l) (n := 0 + l.length) (by simpa using ho) (Sized.nil _) hz (by simp [rawM_length])
      simpa using h0
    · intro k hk
      exact (World.ownsRow.lt ho k hk).1
theorem MarksAt.kept {w w' : World} {v : Value} {l : List (List UInt8)} (h : MarksAt w v l) (hB : ∀ k, v.ownBlock = some k → k < w.heap.size → w'.heap[k]? = w.heap[k]?) (hz : w.heap.size ≤ w'.heap.size) : MarksAt w' v l :=
  marksAt_iff.2 ((marksAt_iff.1 h).kept hB hz)
theorem MarksAt.keep {w w' : World} {v : Value} {l : List (List UInt8)} (h : MarksAt w v l) (hB : ∀ k, v.ownBlock = some k → w'.heap[k]? = w.heap[k]?) : MarksAt w' v l := by
  obtain ⟨p, cap, rfl, hc, hf⟩ := h
  refine ⟨p, cap, rfl, hc, fun i m hi => ?_⟩
  obtain ⟨g, o, rfl, hg, hr⟩ := hf i m hi
  have he := hB g rfl
  refine ⟨g, o, rfl, ?_, range_kept hr he⟩
  rw [Array.getElem?_eq_getElem hg] at he
  exact (Array.getElem?_eq_some_iff.1 he).1
/-! ### Marks that know their length -/
abbrev Mk := { m : List UInt8 // m.length = 16 }
def vals (ms : List Mk) : List (List UInt8) := ms.map Subtype.val
theorem vals_length (ms : List Mk) : (vals ms).length = ms.length := List.length_map _
theorem vals16 (ms : List Mk) : Marks16 (vals ms) := by
  intro m hm
  obtain ⟨x, _, rfl⟩ := List.mem_map.1 hm
  exact x.2
theorem vals_get {ms : List Mk} {i : Nat} {x : Mk} (h : ms[i]? = some x) : (vals ms)[i]? = some x.1 := by unfold vals; rw [List.getElem?_map, h]; rfl
theorem toMk : ∀ {l : List (List UInt8)}, Marks16 l → ∃ ms : List Mk, vals ms = l
  | [], _ => ⟨[], rfl⟩
  | m :: t, h => by
    obtain ⟨ms, hms⟩ := toMk (fun x hx => h x (by simp [hx]) : Marks16 t)
    exact ⟨⟨m, h m (by simp)⟩ :: ms, by unfold vals at *; rw [List.map_cons, hms]⟩
end Go.Proofs.Ytehfinjcfjobeaa
