/-
  From the evaluator to a row: a law that answers true wherever it is asked, and turns nothing that was there.
-/
import Derived.Test.YtbjoldcjbpngaaaEvT
import Derived.ProofKit
set_option linter.unusedVariables false
set_option linter.unusedSimpArgs false
namespace Go.Ev
open Go Go.RowKit

/-- The ghost at a law's beginning: all that is there stays. -/
def Gh.all (W : World) : Gh := ⟨fun g o => W.cell? ⟨g, o, none⟩, fun _ => none, fun _ _ => none, fun _ => none⟩

theorem Rel.all (W : World) : Rel (Gh.all W) [] W := ⟨fun _ _ _ h => h, by simp, fun _ _ => ⟨rfl, fun _ => rfl⟩, by simp [Gh.all]⟩

theorem shutR_bool {H : Heap} {v : AVal} {b : Bool} (h : shutR H v = some (.bool b)) : v = .bool b := by
  cases v <;> simp only [shutR, Option.some.injEq, reduceCtorEq] at h <;> first | exact h | (split at h <;> simp at h; done) | skip
  all_goals (try unfold growAt at h)
  all_goals (split at h <;> first | (cases h; done) | (split at h <;> simp at h))

/-- A law's call. -/
theorem law_calls {P : Program} {l : List (Option AFunc)} (hm : P.follows .mixedOrders = true) (hk : chkTab P 0 l = true) {f k : Nat} {as : List AVal} {b : Bool} (h : pcall (tabOf l) k f as = some (.ok (.bool b))) {W : World} {args : Array Value}
    (hr : Reps (Gh.all W) as args.toList) : Calls P f args W fun e W' => e = .returned (.bool b) ∧ Below W.heap.size W W' := by
  unfold pcall pureRes at h
  split at h <;> first | (cases h; done) | skip
  · rename_i v H hc
    split at h <;> first | (cases h; done) | skip
    rename_i v' hs
    simp only [Option.some.injEq, Ex.ok.injEq] at h
    subst h
    have hv := shutR_bool hs
    subst hv
    refine ((calls_ok hm hk k f as [] H _ hc).2 (Gh.all W) W args (Rel.all W) hr).mono ?_
    rintro e W' ⟨Γ', hR, hst, hex⟩
    cases e <;> simp only [ExOk] at hex
    refine ⟨by rw [hex.bool_inv], hst.os, hst.tape, hst.output, hst.size, ?_⟩
    intro g hg
    exact hst.heap g hg rfl
  · split at h <;> simp at h

theorem trodAll_stays {H : Type} {enc : TypeId × Value → H} {P : Program} {W W' : World} {sp : Nat → Bool} (hl : laidOutB P = true) : ∀ {ts : List TypeId} {vs : List Value} {ds : List (DataW H)} {ps : List MemPlace},
    ts.all (fun t => P.readableRec t && decide (t < P.types.size)) = true → DataW.TrodAll enc P W 0 (fun _ => true) true ts vs ds ps → (∀ p ∈ ps, W.sameAt W' p) → (∀ p ∈ ps, sp p.block = true) → DataW.TrodAll enc P W' 0 sp true ts vs ds ps
  | [], [], [], ps, _, h, _, _ => h
  | t :: ts, v :: vs, d :: ds, ps, hr, h, h1, h2 => by
    simp only [List.all_cons, Bool.and_eq_true, decide_eq_true_eq] at hr
    obtain ⟨p, q, hp, hq, rfl⟩ := h
    exact ⟨p, q, WideElems.Trod_stays hl hr.1.1 hr.1.2 hp (fun x hx => h1 x (List.mem_append_left _ hx)) (fun x hx => h2 x (List.mem_append_left _ hx)),
      trodAll_stays hl hr.2 hq (fun x hx => h1 x (List.mem_append_right _ hx)) (fun x hx => h2 x (List.mem_append_right _ hx)), rfl⟩
  | [], [], _ :: _, _, _, h, _, _ => h.elim
  | [], _ :: _, _, _, _, h, _, _ => h.elim
  | _ :: _, [], _, _, _, h, _, _ => h.elim
  | _ :: _, _ :: _, [], _, _, h, _, _ => h.elim

/-- All that a law's row asks behind the call. -/
theorem law_post {H : Type} {enc : TypeId × Value → H} {P : Program} {fn : Func} {s : ChangeSpec} {apart fresh handsOn again : Bool} {W W' : World} {args : Array Value} {ds gs : List (DataW H)} {before : List MemPlace} {bt : TypeId}
    (hl : laidOutB P = true) (hread : fn.params.toList.all (fun t => P.readableRec t && decide (t < P.types.size)) = true) (hres : fn.resultTypes = #[bt]) (hbt : P.underlying bt = some .bool) (hvars : s.vars = [])
    (hspec : (s.fn H ds).results = [.lit (.bool true)] ∧ (s.fn H ds).args = ds ∧ (s.fn H ds).vars = []) (hW : DataW.Whole enc P fn.params.toList s.vars apart W args.toList ds gs before) (hb : Below W.heap.size W W') :
    s.post enc P fn apart fresh handsOn again W args (.bool true) W' := by
  have hW0 := hW
  obtain ⟨p, q, hA, hV, rfl, hfz, hnd⟩ := hW
  rw [hvars] at hV
  obtain ⟨rfl, rfl⟩ := ChangeShapes.trodVars_none hV
  have hlt : ∀ x ∈ p, x.block < W.heap.size := fun x hx => hW0.lt x (by simp [hx])
  have hold : ∀ x ∈ p, (fun b => decide (b < W.heap.size)) x.block = true := fun x hx => by simpa using hlt x hx
  have hargs : ∀ sp : Nat → Bool, (∀ x ∈ p, sp x.block = true) → DataW.TrodAll enc P W' 0 sp true fn.params.toList args.toList ds p := fun sp hsp =>
    trodAll_stays hl hread hA (fun x hx => hb.same (hlt x hx)) hsp
  have hlist : ∀ n, n = 1 → (Value.bool true).resultList n = [.bool true] := by rintro n rfl; rfl
  have hsz : fn.resultTypes.size = 1 := by rw [hres]; rfl
  have hresT : ∀ (b : Nat) (sp : Nat → Bool) (hd : Bool), DataW.TrodAll enc P W' b sp hd fn.resultTypes.toList ((Value.bool true).resultList fn.resultTypes.size) [.lit (.bool true)] [] := by
    intro b sp hd
    rw [hlist _ hsz, hres]
    exact ChangeShapes.trodAll_mk1 (shut_bool hbt true)
  obtain ⟨s1, s2, s3⟩ := hspec
  refine ⟨ds, [], p ++ [], [], p, [], hW0, ?_, ?_, ?_, World.keptBut_mono (fun x hx => ?_) (hb.frame (fun _ => False)), fun _ => ?_⟩
  · rw [List.append_nil, s1]; exact hresT _ _ _
  · rw [List.append_nil, s2]; exact hargs _ hold
  · rw [List.append_nil, s3, hvars]; exact rfl
  · exact hx.elim
  · refine ⟨?_, [.lit (.bool true)] ++ ds, [], ([] ++ p) ++ [], ⟨[] ++ p, [], ?_, ?_, rfl, ?_, ?_⟩, ?_⟩
    · exact ok_one hres rfl (okWide_bool_mk hbt true)
    · exact ChangeShapes.trodAll_append (hargs _ (fun _ _ => rfl)) (hresT _ _ _)
    · rw [hvars]; exact rfl
    · intro b off hp
      have hp' : MemPlace.cell b off ∈ p := by simpa using hp
      rw [hb.frozen (p := ⟨b, off, none⟩) (hlt _ hp')]
      exact hfz b off (by simpa using hp')
    · intro ha
      have := hnd ha
      simpa using this
    · intro x hx _
      simpa using hx
end Go.Ev
