/- A law's statement out of its contract on abstract values: arguments that are read plainly, and memory that is left as it was. -/
import Derived.Test.YthcpekjcnokonaaAm27
import Derived.ChangeSame
import Derived.ChangeStays
import Derived.OpenShut
import Derived.RowKit
import Derived.Deep.Slices
import Derived.Handed
import Derived.ProofKit
set_option linter.unusedVariables false
namespace Go.AM
open Go.ChangeShapes Go.WideShapes Go.RowKit

/-! ### Memory that is as it was -/
theorem Fr.sameAt {w w' : World} (h : Fr (fun _ => False) w w') {p : MemPlace} (hp : p.block < w.heap.size) : w.sameAt w' p := by
  cases p with
  | cell b off => exact World.cell?_of_block (h.block b hp (fun f => f))
  | map b => exact h.block b hp (fun f => f)
theorem Fr.keptBut {w w' : World} (h : Fr (fun _ => False) w w') (may : MemPlace → Prop) : w.keptBut w' may := by
  refine ⟨h.os, h.output, fun i hi => ?_⟩
  rw [h.block i hi (fun f => f)]
  cases hb : w.heap[i]? with
  | none => simp
  | some o => cases o <;> simp
theorem trodAll_fr {H : Type} {enc : TypeId × Value → H} {P : Program} {w w' : World} {T : TypeId → Prop} (K : Kids P T) (hz : ∀ {t e : TypeId}, T t → P.underlying t = some (.slice e) → 0 < P.cellsOf e)
    (h : Fr (fun _ => False) w w') {sp : Nat → Bool} : ∀ {ts : List TypeId} {vs : List Value} {ds : List (DataW H)} {ps : List MemPlace}, (∀ t ∈ ts, T t) → DataW.TrodAll enc P w 0 (fun _ => true) true ts vs ds ps → (∀ p ∈ ps, p.block < w.heap.size) → (∀ p ∈ ps, sp p.block = true) →
      DataW.TrodAll enc P w' 0 sp true ts vs ds ps
  | [], [], [], _, _, h1, _, _ => h1
  | _ :: _, _ :: _, _ :: _, _, hT, ⟨p, q, ⟨n, h1⟩, h2, e⟩, hl, hs =>
    ⟨p, q, ⟨n, DataW.trod_stays K hz (fun hf => by cases hf) (hT _ (List.mem_cons.2 (.inl rfl))) h1 (fun x hx => h.sameAt (hl x (by rw [e]; exact List.mem_append_left _ hx))) (fun x hx => hs x (by rw [e]; exact List.mem_append_left _ hx))⟩,
      trodAll_fr K hz h (fun t ht => hT t (List.mem_cons.2 (.inr ht))) h2 (fun x hx => hl x (by rw [e]; exact List.mem_append_right _ hx)) (fun x hx => hs x (by rw [e]; exact List.mem_append_right _ hx)), e⟩
theorem law_post {H : Type} {enc : TypeId × Value → H} {P : Program} {fn : Func} {s : ChangeSpec} {W W' : World} {args : Array Value} {ds gs : List (DataW H)} {before : List MemPlace} {tb : TypeId}
    (hvars : s.vars = []) (hl : laidOutB P = true) (hm : mapsRowed P = true)
    (hz : ((List.range P.types.size).all fun t => match P.underlying t with | some (.slice e) => decide (0 < P.cellsOf e) | _ => true) = true)
    (hp : ∀ t ∈ fn.params.toList, t < P.types.size) (hr : fn.resultTypes = #[tb]) (hb : P.underlying tb = some .bool)
    (hW : DataW.Whole enc P fn.params.toList s.vars false W args.toList ds gs before)
    (hs : s.fn H (ds ++ gs) = { results := [.lit (.bool true)], args := ds }) (hfr : Fr (fun _ => False) W W') :
    s.post enc P fn false true false false W args (.bool true) W' := by
  have hlt := hW.lt
  obtain ⟨p, q, hA, hV, he, hf, hn⟩ := id hW
  rw [hvars] at hV
  obtain ⟨hg, hq⟩ := trodVars_none hV
  subst hq
  have he' : before = p := by simpa using he
  subst he'
  have hz' : ∀ {t e : TypeId}, t < P.types.size → P.underlying t = some (.slice e) → 0 < P.cellsOf e := by
    intro t e h1 h2
    have := List.all_eq_true.1 hz t (List.mem_range.2 h1)
    rw [h2] at this
    simpa using this
  have hargs : ∀ sp : Nat → Bool, (∀ p ∈ before, sp p.block = true) → DataW.TrodAll enc P W' 0 sp true fn.params.toList args.toList ds before :=
    fun sp hsp => trodAll_fr (kids_rows hl hm) hz' hfr hp hA hlt hsp
  refine ⟨ds, gs, before, [], before, [], hW, ?_, ?_, ?_, hfr.keptBut _, fun h => by cases h⟩
  · rw [hs, hr]
    exact trodAll_cons_mk (shut_bool hb true) trodAll_mk0
  · rw [hs]
    exact hargs _ (fun p hp => by simpa using hlt p hp)
  · rw [hs, hvars]
    exact rfl
/-- The calls of a law give what its row asks. -/
theorem law_calls {H : Type} {enc : TypeId × Value → H} {P : Program} {f : FuncId} {fn : Func} {s : ChangeSpec} {W : World} {args : Array Value} {ds gs : List (DataW H)} {before : List MemPlace} {tb : TypeId} {avs : List AV}
    (hvars : s.vars = []) (hl : laidOutB P = true) (hm : mapsRowed P = true)
    (hz : ((List.range P.types.size).all fun t => match P.underlying t with | some (.slice e) => decide (0 < P.cellsOf e) | _ => true) = true)
    (hp : ∀ t ∈ fn.params.toList, t < P.types.size) (hr : fn.resultTypes = #[tb]) (hb : P.underlying tb = some .bool)
    (hW : DataW.Whole enc P fn.params.toList s.vars false W args.toList ds gs before)
    (hs : s.fn H (ds ++ gs) = { results := [.lit (.bool true)], args := ds })
    (hn : avs.length = args.size) (ha : ∀ (j : Nat) (a : AV) (x : Value), avs[j]? = some a → args[j]? = some x → PRep W (· < W.heap.size) a x)
    (hc : ACalls P f avs [] (.b true) []) :
    Calls P f args W fun e W' => ∃ v, e = .returned v ∧ s.post enc P fn false true false false W args v W' := by
  refine (hc W [] (· < W.heap.size) args rfl hn (fun j a x h1 h2 => .p (ha j a x h1 h2)) ⟨fun n c h => by simp [look] at h, fun n m c d g _ h => by simp [look] at h, fun n c g h => by simp [look] at h, fun g h => h⟩).mono ?_
  rintro e W' ⟨x, β', ok', rfl, hx, _, _, _, hfr, _, _⟩
  have hxt : x = .bool true := by
    cases hx with
    | p h => cases h; rfl
  subst hxt
  refine ⟨_, rfl, law_post hvars hl hm hz hp hr hb hW hs (hfr.mono ?_)⟩
  rintro g ⟨n, c, h, _⟩
  simp [look] at h
end Go.AM
