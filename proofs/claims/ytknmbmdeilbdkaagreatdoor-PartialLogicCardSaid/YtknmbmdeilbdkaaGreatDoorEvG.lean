/- Literals of structs; zero values. -/
import Derived.Test.YtknmbmdeilbdkaaGreatDoorEvF
namespace Go.Proofs.YtknmbmdeilbdkaaGreatDoor.Ev
open Go
section
variable {P : Program} {m : Ren}

def aCells : AV → Option (List AV)
  | .agg l => some l
  | .any => none
  | v => some [v]
theorem aCells_sound {a : AV} {l : List AV} (h : aCells a = some l) {v : Value} (hv : VR m a v) : LR m l v.cells.toList := by
  cases hv with
  | agg hl h' =>
    cases h
    exact ⟨by simpa [Value.cells] using hl, fun i a v h1 h2 => h' i a v h1 (by simpa [Value.cells] using h2)⟩
  | any => cases h
  | emp p k => cases h; exact LR.cons (.emp p k) LR.nil
  | bool => cases h; exact LR.cons (.bool _) LR.nil
  | int => cases h; exact LR.cons (.int _ _) LR.nil
  | str hc => cases h; exact LR.cons (.str hc) LR.nil
  | nilp => cases h; exact LR.cons .nilp LR.nil
  | ptr hb => cases h; exact LR.cons (.ptr hb) LR.nil
  | nils => cases h; exact LR.cons .nils LR.nil
  | sl hb => cases h; exact LR.cons (.sl hb) LR.nil
  | fn a b c d => cases h; exact LR.cons (.fn a b c d) LR.nil
  | nilf => cases h; exact LR.cons .nilf LR.nil
  | yld hb => cases h; exact LR.cons (.yld hb) LR.nil
  | mp hb => cases h; exact LR.cons (.mp hb) LR.nil
  | ifc hb => cases h; exact LR.cons (.ifc hb) LR.nil
  | nili => cases h; exact LR.cons .nili LR.nil
  | tup a b => cases h; exact LR.cons (.tup a b) LR.nil

def splice {α : Type} (l : List α) (off : Nat) (new : List α) : List α := l.take off ++ (new ++ l.drop (off + new.length))
theorem fold_set {off : Nat} : ∀ (l : List Value) (k : Nat) (arr : Array Value), off + k + l.length ≤ arr.size →
    ((l.zipIdx k).foldl (fun cs x => cs.setIfInBounds (off + x.2) x.1) arr).toList = arr.toList.take (off + k) ++ (l ++ arr.toList.drop (off + k + l.length))
  | [], k, arr, _ => by simp
  | v :: l, k, arr, h => by
    simp only [List.length_cons] at h
    rw [List.zipIdx_cons, List.foldl_cons, fold_set l (k + 1) _ (by simp; omega)]
    simp only [Array.toList_setIfInBounds, List.length_cons]
    apply List.ext_getElem?
    intro i
    simp only [List.getElem?_append, List.length_take, List.length_set, Array.length_toList, List.getElem?_take, List.getElem?_set, List.getElem?_drop, List.length_cons]
    rw [show min (off + (k + 1)) arr.size = off + (k + 1) by omega, show min (off + k) arr.size = off + k by omega]
    by_cases h1 : i < off + k
    · rw [if_pos (show i < off + (k + 1) by omega), if_pos (show i < off + (k + 1) by omega), if_neg (show ¬ off + k = i by omega), if_pos h1, if_pos h1]
    · by_cases h2 : i = off + k
      · subst h2
        rw [if_pos (show off + k < off + (k + 1) by omega), if_pos (show off + k < off + (k + 1) by omega), if_pos rfl, if_pos (show off + k < arr.size by omega), if_neg h1]
        simp
      · rw [if_neg (show ¬ i < off + (k + 1) by omega), if_neg h1, show i - (off + k) = (i - (off + (k + 1))) + 1 by omega, List.getElem?_cons_succ]
        by_cases h3 : i - (off + (k + 1)) < l.length
        · rw [if_pos h3, if_pos (show i - (off + (k + 1)) + 1 < l.length + 1 by omega)]
        · rw [if_neg h3, if_neg (show ¬ i - (off + (k + 1)) + 1 < l.length + 1 by omega), if_neg (show ¬ off + k = off + (k + 1) + l.length + (i - (off + (k + 1)) - l.length) by omega)]
          congr 1
          omega
theorem fold_set0 (vs : Array Value) (off : Nat) (arr : Array Value) (h : off + vs.size ≤ arr.size) :
    (vs.zipIdx.foldl (fun cs (c, j) => cs.setIfInBounds (off + j) c) arr).toList = splice arr.toList off vs.toList := by
  have := fold_set (off := off) vs.toList 0 arr (by simpa using h)
  rw [← Array.foldl_toList, Array.toList_zipIdx]
  simpa [splice] using this
theorem LR.splice {xs ys : List AV} {vs us : List Value} {off : Nat} (h : LR m xs vs) (h' : LR m ys us) : LR m (splice xs off ys) (splice vs off us) := by
  unfold Ev.splice
  rw [h'.1]
  exact (h.take off).append (h'.append (h.drop _))

def afill (place : Nat → Option (Nat × Nat)) : List AV → List (Nat × AV) → Option (List AV)
  | zs, [] => some zs
  | zs, (i, a) :: rest => match place i, aCells a with
    | some (off, size), some l => match Nat.beq l.length size && Nat.ble (off + l.length) zs.length with
      | true => afill place (splice zs off l) rest
      | false => none
    | _, _ => none
def PR (m : Ren) : List (Nat × AV) → List (Nat × Value) → Prop
  | [], [] => True
  | (i, a) :: xs, (j, v) :: ys => i = j ∧ VR m a v ∧ PR m xs ys
  | _, _ => False
theorem afill_sound {place : Nat → Option (Nat × Nat)} : ∀ {ps : List (Nat × AV)} {zs l : List AV} {qs : List (Nat × Value)} {cells : Array Value}, afill place zs ps = some l → LR m zs cells.toList → PR m ps qs →
    ∃ cells', Instr.fill place cells qs = some cells' ∧ LR m l cells'.toList
  | [], zs, l, qs, cells, h, hz, hp => by
    cases qs with
    | nil => cases h; exact ⟨cells, rfl, hz⟩
    | cons _ _ => exact hp.elim
  | (i, a) :: ps, zs, l, qs, cells, h, hz, hp => by
    cases qs with
    | nil => exact hp.elim
    | cons q qs =>
      obtain ⟨j, v⟩ := q
      obtain ⟨rfl, hv, hp⟩ := hp
      simp only [afill] at h
      split at h
      · rename_i off size lc hpl hc
        split at h
        · rename_i hb
          rw [Bool.and_eq_true, Nat.ble_eq] at hb
          have hb1 := Nat.eq_of_beq_eq_true hb.1
          have hl := aCells_sound hc hv
          have e1 : v.cells.size = lc.length := by rw [hl.1]; simp
          have e2 : cells.size = zs.length := by rw [hz.1]; simp
          have hle : off + v.cells.size ≤ cells.size := by rw [e1, e2]; exact hb.2
          obtain ⟨cells', h1, h2⟩ := afill_sound (cells := v.cells.zipIdx.foldl (fun cs (c, j) => cs.setIfInBounds (off + j) c) cells) (qs := qs) h (by rw [fold_set0 _ _ _ hle]; exact hz.splice hl) hp
          refine ⟨cells', ?_, h2⟩
          simp only [Instr.fill, hpl]
          rw [if_neg (by simp [e1, hb1]; omega)]
          exact h1
        · cases h
      · cases h

def tzero (P : Program) (t : TypeId) : Option (List AV) := match P.info? t with
  | none => none
  | some i => match i.zero with
    | none => none
    | some v => match absV 8 v with
      | none => none
      | some a => match aCells a with
        | none => none
        | some l => match Nat.beq l.length i.size with
          | true => some l
          | false => none
theorem tzero_sound (m : Ren) {t : TypeId} {l : List AV} (h : tzero P t = some l) : ∃ i z, P.info? t = some i ∧ i.zero = some z ∧ LR m l z.cells.toList ∧ l.length = i.size := by
  unfold tzero at h
  split at h
  · cases h
  · rename_i i hi
    split at h
    · cases h
    · rename_i z hz
      split at h
      · cases h
      · rename_i a ha
        split at h
        · cases h
        · rename_i l' hl
          split at h
          · rename_i hb
            cases h
            exact ⟨i, z, hi, hz, aCells_sound hl (absV_sound m 8 z a ha), Nat.eq_of_beq_eq_true hb⟩
          · cases h

def aplaces (P : Program) : List Field → Option (List (Nat × Nat))
  | [] => some []
  | f :: fs => match P.info? f.type with
    | none => none
    | some i => match aplaces P fs with
      | none => none
      | some l => some ((f.offset, i.size) :: l)
theorem aplaces_eq : ∀ {fs : List Field} {l : List (Nat × Nat)}, aplaces P fs = some l → fs.mapM (fun f => (P.info? f.type).map fun i => (f.offset, i.size)) = some l
  | [], l, h => by cases h; rfl
  | f :: fs, l, h => by
    simp only [aplaces] at h
    split at h
    · cases h
    · rename_i i hi
      split at h
      · cases h
      · rename_i l' hl
        cases h
        simp [List.mapM_cons, hi, aplaces_eq hl]

/-- A struct or an array literal. -/
noncomputable def abuild (P : Program) (t : TypeId) (ps : List (Nat × AV)) : Option AV :=
  match tzero P t with
  | none => none
  | some zs => match P.underlying t with
    | some (.struct ⟨fs⟩) => match aplaces P fs with
      | none => none
      | some pl => match afill (nth pl) zs ps with
        | none => none
        | some l => some (.agg l)
    | some (.array _ e) => match P.info? e with
      | none => none
      | some ie => match afill (fun i => some (i * ie.size, ie.size)) zs ps with
        | none => none
        | some l => some (.agg l)
    | _ => none
theorem abuild_sound {t : TypeId} {ps : List (Nat × AV)} {v : AV} (h : abuild P t ps = some v) {qs : Array (Nat × Value)} (hp : PR m ps qs.toList) : ∃ r, VR m v r ∧ ∀ w, (Instr.build t qs).run P w = .ok r w := by
  unfold abuild at h
  split at h
  · cases h
  · rename_i zs hzs
    obtain ⟨i, z, hi, hz, hlz, _⟩ := tzero_sound m hzs
    split at h
    · rename_i fs hu
      split at h
      · cases h
      · rename_i pl hpl
        split at h
        · cases h
        · rename_i l hl
          cases h
          obtain ⟨cells, h1, h2⟩ := afill_sound hl hlz hp
          have hb : P.built t qs.toList = some cells := by
            unfold Program.built
            rw [hi, hu]
            simp only [hz, aplaces_eq hpl]
            rw [← h1]
            congr 1
            funext j
            rw [nth_eq]
            simp
          refine ⟨.agg cells, ?_, fun w => run_build w t qs cells hb⟩
          have := VR.agg' h2
          simpa using this
    · rename_i n e hu
      split at h
      · cases h
      · rename_i ie hie
        split at h
        · cases h
        · rename_i l hl
          cases h
          obtain ⟨cells, h1, h2⟩ := afill_sound hl hlz hp
          have hb : P.built t qs.toList = some cells := by
            unfold Program.built
            rw [hi, hu]
            simp only [hz, hie]
            exact h1
          refine ⟨.agg cells, ?_, fun w => run_build w t qs cells hb⟩
          have := VR.agg' h2
          simpa using this
    · cases h
end
end Go.Proofs.YtknmbmdeilbdkaaGreatDoor.Ev
