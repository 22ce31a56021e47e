/-
  Appending in a region whose order is drawn.
-/
import Derived.Test.YtbjoldcjbpngaaaEvZ
set_option linter.unusedVariables false
namespace Go.Ev
open Go

def okEarlier2 (deps : List Nat) (f : Foot) : Nat → List Foot → Bool
  | _, [] => true
  | o, g :: gs => (!notIn o deps || disj g f) && okEarlier2 deps f (o + 1) gs

def okFs2 (all : List Foot) : Nat → List (AOper × Nat × List Nat) → List Foot → Bool
  | _, [], [] => true
  | i, p :: ps, f :: fs => okEarlier2 p.2.2 f 0 (all.take i) && okFs2 all (i + 1) ps fs
  | _, _, _ => false

theorem okEarlier2_eq (deps : List Nat) (f : Foot) : ∀ (o : Nat) (gs : List Foot), okEarlier2 deps f o gs = okEarlier deps f o gs
  | _, [] => rfl
  | o, g :: gs => by simp only [okEarlier2, okEarlier, okEarlier2_eq deps f (o + 1) gs, Bool.or_comm]
theorem okFs2_eq (all : List Foot) : ∀ (i : Nat) (l : List (AOper × Nat × List Nat)) (fs : List Foot), okFs2 all i l fs = okFs all i l fs
  | _, [], [] => rfl
  | i, p :: ps, f :: fs => by simp only [okFs2, okFs, okFs2_eq all (i + 1) ps fs, okEarlier2_eq]
  | _, [], _ :: _ => rfl
  | _, _ :: _, [] => rfl

section
variable {C : Ctx} {cs : List ACode} {e : Env} {H : Heap} {Q : Post} {base : Nat} {l : List (AOper × Nat × List Nat)} {acc : List Foot} {K : List Foot → Env → Heap → Prop}
theorem WD_nil2 {e : Env} {H : Heap} {all : List (AOper × Nat × List Nat)} (h1 : okFs2 acc 0 all acc = true) (h2 : WL C cs e H Q) : WD C base [] acc e H (fun fs e' H' => okFs fs 0 all fs = true ∧ WL C cs e' H' Q) :=
  WD_nil ⟨by rw [← okFs2_eq]; exact h1, h2⟩

theorem D_app {d es bytes o len es0 j : Nat} {ds : List Nat} {s x : AOpd} {xs ys : List AVal} {b : Bool} (hs : s.ev e = some (.gl o len)) (hx : x.ev e = some (.lst ys b)) (hb : H[o]? = some (.grow es0 xs none)) (hl : len = xs.length) (he : es0 = es ∨ es0 = 0)
    (hw : xs.all (fun y => decide (y.width = es)) = true) (hy : ys.all (fun y => decide (y.width = es)) = true) (hne : ys.isEmpty = false) (hm : (xs.length + ys.length) * bytes ≤ 140737488355328) (hf : footH e H (.app es bytes false s x) = none)
    (h : WD C base l (acc ++ [.opq H (H.set o (.grow es (xs ++ ys) none))]) ((d, .gl o (xs.length + ys.length)) :: e) (H.set o (.grow es (xs ++ ys) none)) K) : WD C base ((⟨some d, .app es bytes false s x, none⟩, j, ds) :: l) acc e H K := by
  refine D_o (d := some d) rfl rfl rfl hf ?_ h
  simp only [evH, hs, hx, appendA, elemsOf, hy, if_true, hb, hne, Bool.false_eq_true, if_false]
  rw [if_pos ⟨hl, he, hw⟩, if_pos hm]
/-- .. one element more, to a list that may have no cells yet. -/
theorem D_push {d es bytes o len es1 j : Nat} {ds : List Nat} {s x : AOpd} {xs : List AVal} {y : AVal} {b : Bool} (hs : s.ev e = some (.gl o len)) (hx : x.ev e = some (.lst [y] b)) (hb : H[o]? = some (.grow es1 xs none)) (hl : xs.length = len) (he : es1 = es ∨ es1 = 0)
    (hw : xs.all (fun y => decide (y.width = es)) = true) (hy : y.width = es) (hm : (len + 1) * bytes ≤ 140737488355328) (hf : footH e H (.app es bytes false s x) = none) {zs : List AVal} (hz : xs ++ [y] = zs) {H2 : Heap} (hH : H.set o (.grow es zs none) = H2)
    (h : WD C base l (acc ++ [.opq H H2]) ((d, .gl o (len + 1)) :: e) H2 K) : WD C base ((⟨some d, .app es bytes false s x, none⟩, j, ds) :: l) acc e H K := by
  subst hl; subst hz; subst hH
  exact D_app hs hx hb rfl he hw (by simp [hy]) rfl (by simpa using hm) hf h
end
theorem O_push {C : Ctx} {cs : List ACode} {e : Env} {H : Heap} {Q : Post} {d es bytes o len es1 : Nat} {l : List AOper} {s x : AOpd} {xs : List AVal} {y : AVal} {b : Bool} (hs : s.ev e = some (.gl o len)) (hx : x.ev e = some (.lst [y] b)) (hb : H[o]? = some (.grow es1 xs none)) (hl : xs.length = len) (he : es1 = es ∨ es1 = 0)
    (hw : xs.all (fun y => decide (y.width = es)) = true) (hy : y.width = es) (hm : (len + 1) * bytes ≤ 140737488355328) {zs : List AVal} (hz : xs ++ [y] = zs) {H2 : Heap} (hH : H.set o (.grow es zs none) = H2)
    (h : WO C l cs ((d, .gl o (len + 1)) :: e) H2 Q) : WO C (⟨some d, .app es bytes false s x, none⟩ :: l) cs e H Q := by
  subst hl; subst hz; subst hH
  exact O_app hs hx hb rfl he hw (by simp [hy]) rfl (by simpa using hm) h
section
variable {C : Ctx} {cs : List ACode} {e : Env} {H : Heap} {Q : Post} {l : List AOper}
/-- An element's address, by an index that is not known. -/
theorem O_iaa {d len es b o n : Nat} {x i : AOpd} {k : IntKind} (hx : x.ev e = some (.ptr b o)) (hi : i.ev e = some (.int k n)) (hn : n < len) (h : WO C l cs ((d, .ptr b (o + n * es)) :: e) H Q) : WO C (⟨some d, .iaa len es x i, none⟩ :: l) cs e H Q := by
  refine O_p rfl rfl (v := .ptr b (o + n * es)) ?_ h
  simp only [evP, hx, hi]
  rw [if_pos ⟨by omega, by omega⟩, Int.toNat_natCast]
theorem O_iar {d len es n : Nat} {r : List AVal} {x i : AOpd} {k : IntKind} (hx : x.ev e = some (.ro r)) (hi : i.ev e = some (.int k n)) (hn : n < len) (hl : n * es < r.length) (h : WO C l cs ((d, .ro (r.drop (n * es))) :: e) H Q) : WO C (⟨some d, .iaa len es x i, none⟩ :: l) cs e H Q := by
  refine O_p rfl rfl (v := .ro (r.drop (n * es))) ?_ h
  simp only [evP, hx, hi]
  rw [if_pos ⟨by omega, by omega, by rw [Int.toNat_natCast]; exact hl⟩, Int.toNat_natCast]
theorem O_ld {d b o : Nat} {x : AOpd} {vs : List AVal} {v : AVal} (hx : x.ev e = some (.ptr b o)) (hb : H[b]? = some (.cells vs)) (ho : vs[o]? = some v) (h : WO C l cs ((d, v) :: e) H Q) : WO C (⟨some d, .lds x, none⟩ :: l) cs e H Q := by
  refine O_h rfl rfl rfl (v := v) ?_ h
  simp only [evH, hx, loadS, hb, ho, okv]
theorem putCells_one {α : Type} (a : α) : ∀ (o : Nat) (vs : List α), o < vs.length → putCells o [a] vs = vs.set o a
  | 0, v :: vs, _ => rfl
  | o + 1, v :: vs, h => by
    have := putCells_one a o vs (by simpa using h)
    simp only [putCells, List.take_succ_cons, List.cons_append, List.length_singleton, List.set_cons_succ, List.cons.injEq, true_and] at this ⊢
    rw [Nat.add_right_comm, List.drop_succ_cons]; exact this
theorem O_st {b o : Nat} {x w : AOpd} {vs : List AVal} {v : AVal} (hx : x.ev e = some (.ptr b o)) (hv : w.ev e = some v) (hs : v.solid = true) (hw : v.flat = [v]) (hb : H[b]? = some (.cells vs)) (ho : o < vs.length) {ws : List AVal} (hws : vs.set o v = ws) {H2 : Heap} (hH : H.set b (.cells ws) = H2) (h : WO C l cs e H2 Q) : WO C (⟨none, .sts x w, none⟩ :: l) cs e H Q := by
  subst hws; subst hH
  refine O_hn rfl rfl rfl (v := undefA) ?_ h
  simp only [evH, hx, hv, storeA, hs, AVal.width, hw, List.length_singleton, hb]
  rw [if_pos ⟨trivial, trivial⟩, if_pos (by omega), putCells_one v o vs ho]
theorem O_ias {d es b off len cap n : Nat} {w : Option Nat} {x i : AOpd} {k : IntKind} (hx : x.ev e = some (.sl b off len cap w)) (hi : i.ev e = some (.int k n)) (hn : n < len) (hw : wide w = es) (h : WO C l cs ((d, .ptr b (off + n * es)) :: e) H Q) : WO C (⟨some d, .ia es x i, none⟩ :: l) cs e H Q := by
  refine O_h rfl rfl rfl (v := .ptr b (off + n * es)) ?_ h
  simp only [evH, hx, hi]
  rw [if_pos ⟨by omega, by omega, hw⟩, Int.toNat_natCast]
end
section
variable {imp : List Nat} {C : Ctx} {e : Env} {H : Heap} {l : List (AOper × Nat × List Nat)} {K : Env → Heap → Prop}
theorem evP_iaa {len es b o n : Nat} {x i : AOpd} {k : IntKind} (hx : x.ev e = some (.ptr b o)) (hi : i.ev e = some (.int k n)) (hn : n < len) : evP e (.iaa len es x i) = some (.ptr b (o + n * es)) := by
  simp only [evP, hx, hi]
  rw [if_pos ⟨by omega, by omega⟩, Int.toNat_natCast]
theorem evH_ld {id b o : Nat} {x : AOpd} {vs : List AVal} {v : AVal} (hx : x.ev e = some (.ptr b o)) (hb : H[b]? = some (.cells vs)) (ho : vs[o]? = some v) : evH C e id H (.lds x) = some (.ok v, H) := by
  simp only [evH, hx, loadS, hb, ho, okv]
theorem evH_st {id b o : Nat} {x w : AOpd} {vs : List AVal} {v : AVal} (hx : x.ev e = some (.ptr b o)) (hv : w.ev e = some v) (hs : v.solid = true) (hw : v.flat = [v]) (hb : H[b]? = some (.cells vs)) (ho : o < vs.length) {ws : List AVal} (hws : vs.set o v = ws) {H2 : Heap} (hH : H.set b (.cells ws) = H2) : evH C e id H (.sts x w) = some (.ok undefA, H2) := by
  subst hws; subst hH
  simp only [evH, hx, hv, storeA, hs, AVal.width, hw, List.length_singleton, hb]
  rw [if_pos ⟨trivial, trivial⟩, if_pos (by omega), putCells_one v o vs ho]
theorem S_iaa {d len es b o n j : Nat} {ds : List Nat} {x i : AOpd} {k : IntKind} (hx : x.ev e = some (.ptr b o)) (hi : i.ev e = some (.int k n)) (hn : n < len) (h : WS imp C l ((d, .ptr b (o + n * es)) :: e) H K) : WS imp C ((⟨some d, .iaa len es x i, none⟩, j, ds) :: l) e H K :=
  S_p rfl rfl (evP_iaa hx hi hn) h
theorem S_ld {d b o j : Nat} {ds : List Nat} {x : AOpd} {vs : List AVal} {v : AVal} (hx : x.ev e = some (.ptr b o)) (hb : H[b]? = some (.cells vs)) (ho : vs[o]? = some v) (h : WS imp C l ((d, v) :: e) H K) : WS imp C ((⟨some d, .lds x, none⟩, j, ds) :: l) e H K :=
  S_h (d := some d) rfl rfl rfl rfl (evH_ld hx hb ho) h
theorem S_st {b o j : Nat} {ds : List Nat} {x w : AOpd} {vs : List AVal} {v : AVal} (hx : x.ev e = some (.ptr b o)) (hv : w.ev e = some v) (hs : v.solid = true) (hw : v.flat = [v]) (hb : H[b]? = some (.cells vs)) (ho : o < vs.length) {ws : List AVal} (hws : vs.set o v = ws) {H2 : Heap} (hH : H.set b (.cells ws) = H2) (h : WS imp C l e H2 K) : WS imp C ((⟨none, .sts x w, none⟩, j, ds) :: l) e H K :=
  S_h (d := none) rfl rfl rfl rfl (evH_st hx hv hs hw hb ho hws hH) h
end
section
variable {C : Ctx} {cs : List ACode} {e : Env} {H : Heap} {base : Nat} {l : List (AOper × Nat × List Nat)} {acc : List Foot} {K : List Foot → Env → Heap → Prop}
theorem D_iaa {d len es b o n j : Nat} {ds : List Nat} {x i : AOpd} {k : IntKind} (hx : x.ev e = some (.ptr b o)) (hi : i.ev e = some (.int k n)) (hn : n < len) (h : WD C base l (acc ++ [.io [] []]) ((d, .ptr b (o + n * es)) :: e) H K) : WD C base ((⟨some d, .iaa len es x i, none⟩, j, ds) :: l) acc e H K :=
  D_p rfl rfl (evP_iaa hx hi hn) h
theorem D_ld {d b o j : Nat} {ds : List Nat} {x : AOpd} {vs : List AVal} {v : AVal} (hx : x.ev e = some (.ptr b o)) (hb : H[b]? = some (.cells vs)) (ho : vs[o]? = some v) (h : WD C base l (acc ++ [.io [b] []]) ((d, v) :: e) H K) : WD C base ((⟨some d, .lds x, none⟩, j, ds) :: l) acc e H K :=
  D_h (d := some d) rfl rfl rfl (by simp [footH, hx]) (evH_ld hx hb ho) h
theorem D_st {b o j : Nat} {ds : List Nat} {x w : AOpd} {vs : List AVal} {v : AVal} (hx : x.ev e = some (.ptr b o)) (hv : w.ev e = some v) (hs : v.solid = true) (hw : v.flat = [v]) (hb : H[b]? = some (.cells vs)) (ho : o < vs.length) {r u : List Nat} (hf : footH e H (.sts x w) = some (r, u)) {ws : List AVal} (hws : vs.set o v = ws) {H2 : Heap} (hH : H.set b (.cells ws) = H2) (h : WD C base l (acc ++ [.io r u]) e H2 K) : WD C base ((⟨none, .sts x w, none⟩, j, ds) :: l) acc e H K :=
  D_h (d := none) rfl rfl rfl hf (evH_st hx hv hs hw hb ho hws hH) h
end
end Go.Ev
