/- Rows: arguments that are made of integers and bools, opened. -/
import Derived.Test.YtmdojlkmgllhnaaGreatDoorSxR
import Derived.OpenShut
import Derived.Deep.Slices
namespace Go.Sx
open Go.ChangeShapes Go.WideShapes
def flatOk : List (Option IntKind) → List Value → Prop
  | [], [] => True
  | none :: ks, .bool _ :: vs => flatOk ks vs
  | some k :: ks, .int k' _ :: vs => k' = k ∧ flatOk ks vs
  | _, _ => False
theorem flatOk_len : ∀ {ks : List (Option IntKind)} {vs : List Value}, flatOk ks vs → vs.length = ks.length
  | [], [], _ => rfl
  | none :: ks, .bool _ :: vs, h => by simp only [List.length_cons]; rw [flatOk_len (ks := ks) (vs := vs) h]
  | some k :: ks, .int k' _ :: vs, h => by simp only [List.length_cons]; rw [flatOk_len (ks := ks) (vs := vs) h.2]
  | [], _ :: _, h => by simp [flatOk] at h
  | _ :: _, [], h => by simp [flatOk] at h
  | none :: _, .int _ _ :: _, h => by simp [flatOk] at h
  | some _ :: _, .bool _ :: _, h => by simp [flatOk] at h
theorem flatOk_append : ∀ {ks ks' : List (Option IntKind)} {vs vs' : List Value}, flatOk ks vs → flatOk ks' vs' → flatOk (ks ++ ks') (vs ++ vs')
  | [], _, [], _, _, h' => h'
  | none :: ks, ks', .bool _ :: vs, vs', h, h' => flatOk_append (ks := ks) (vs := vs) h h'
  | some k :: ks, ks', .int k' _ :: vs, vs', h, h' => ⟨h.1, flatOk_append (ks := ks) (vs := vs) h.2 h'⟩
  | [], _, _ :: _, _, h, _ => by simp [flatOk] at h
  | _ :: _, _, [], _, h, _ => by simp [flatOk] at h
theorem cellsOf_size {P : Program} {t : TypeId} {n : Nat} (h : sizeT P t = some n) : P.cellsOf t = n := by
  unfold sizeT at h
  unfold Program.cellsOf
  cases hi : P.info? t with
  | none => rw [hi] at h; cases h
  | some i => rw [hi] at h; cases h; rfl
section
variable {H : Type} {enc : TypeId × Value → H} {P : Program} {w : World} {base : Nat} {sp : Nat → Bool} {held : Bool}
theorem flat_fields {rec : TypeId → Option (List (Option IntKind))} {cs : List Value} {n : Nat}
    (hrec : ∀ t ks vs x, rec t = some ks → DataW.trod enc P w base sp held n t vs = some x → P.cellsOf t = ks.length → flatOk ks vs) :
    ∀ (fs : List Field) (off : Nat) (ks : List (Option IntKind)), flatFs P rec fs off = some ks → (∀ f ∈ fs, ∃ y, DataW.trod enc P w base sp held n f.type ((cs.drop f.offset).take (P.cellsOf f.type)) = some y) → flatOk ks ((cs.drop off).take ks.length)
  | [], off, ks, h, _ => by
    simp only [flatFs, Option.some.injEq] at h
    subst h
    simp [flatOk]
  | f :: fs, off, ks, h, hf => by
    simp only [flatFs] at h
    split at h
    · cases h
    · split at h
      · cases h
      · rename_i hoff
        have hoff := (beq_iff _ _).1 hoff
        split at h
        · cases h
        · rename_i k1 hk1
          split at h
          · cases h
          · rename_i m hm
            split at h
            · cases h
            · rename_i hlen
              have hlen := (beq_iff _ _).1 hlen
              split at h
              · rename_i l hl
                cases h
                have hc := cellsOf_size hm
                obtain ⟨y, hy⟩ := hf f (List.mem_cons_self ..)
                have h1 := hrec f.type k1 _ y hk1 hy (hc.trans hlen)
                rw [hoff, hc, hlen] at h1
                have h2 := flat_fields hrec fs (off + m) l hl (fun g hg => hf g (List.mem_cons_of_mem _ hg))
                have e : (cs.drop off).take (k1 ++ l).length = (cs.drop off).take k1.length ++ (cs.drop (off + m)).take l.length := by
                  rw [List.length_append, List.take_add, List.drop_drop, hlen]
                rw [e]
                exact flatOk_append h1 h2
              · cases h
/-- what is made of integers and bools is read as just these -/
theorem trod_flat : ∀ (d n : Nat) (t : TypeId) (ks : List (Option IntKind)) (cs : List Value) (x : DataW H × List MemPlace), flatT P d t = some ks → DataW.trod enc P w base sp held n t cs = some x → P.cellsOf t = ks.length → flatOk ks cs
  | 0, _, _, _, _, _, h, _, _ => by simp [flatT] at h
  | d + 1, n, t, ks, cs, x, h, ht, hc => by
    simp only [flatT] at h
    split at h
    · rename_i hu
      cases h
      obtain ⟨b, rfl, _⟩ := DataW.trod_bool hu ht
      simp [flatOk]
    · rename_i k hu
      cases h
      obtain ⟨m, rfl, _⟩ := DataW.trod_int hu ht
      simp [flatOk]
    · rename_i fs hu
      split at h
      · cases h
      · obtain ⟨xs, m, rfl, _, hl, hxl, hx⟩ := DataW.trod_struct hu ht
        have := flat_fields (H := H) (enc := enc) (w := w) (base := base) (sp := sp) (held := held) (n := m) (cs := cs) (fun t ks vs x h1 h2 h3 => trod_flat d m t ks vs x h1 h2 h3) fs.toList 0 ks h (fun f hf => by
          obtain ⟨i, hi⟩ := List.mem_iff_getElem?.1 hf
          have hi' : fs[i]? = some f := by simpa using hi
          have hlt : i < xs.length := by rw [hxl]; exact (Array.getElem?_eq_some_iff.1 hi').1
          exact ⟨xs[i], by rw [hx i f hi', List.getElem?_eq_getElem hlt]⟩)
        rw [List.drop_zero, List.take_of_length_le (by omega)] at this
        exact this
    · rename_i len e hu
      split at h
      · rename_i sz hs
        obtain ⟨xs, m, rfl, _, hl, hxl, hx⟩ := DataW.trod_array hu ht
        have := flat_fields (H := H) (enc := enc) (w := w) (base := base) (sp := sp) (held := held) (n := m) (cs := cs) (fun t ks vs x h1 h2 h3 => trod_flat d m t ks vs x h1 h2 h3) (arrFs e sz len 0) 0 ks h (fun f hf => by
          rw [arrFs_eq] at hf
          obtain ⟨i, hi, rfl⟩ := List.mem_map.1 hf
          have hi : i < len := by simpa using List.mem_range'_1.1 hi
          have hlt : i < xs.length := by omega
          have hx := hx i hi
          rw [cellsOf_size hs] at hx
          exact ⟨xs[i], by simp only [arrFd]; rw [cellsOf_size hs, hx, List.getElem?_eq_getElem hlt]⟩)
        rw [List.drop_zero, List.take_of_length_le (by omega)] at this
        exact this
      · cases h
    · cases h
end
end Go.Sx
