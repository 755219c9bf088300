/- New arrays. -/
import Derived.Test.YtfamkibdecgbgaaGreatDoorSxH
import Derived.Laws.MakeOwn
namespace Go.Sx
variable {AV : Type} {P : Program} {N : Env AV}
theorem mkSI_spec {t : TypeId} {si : SI} (h : mkSI P t = some si) : P.underlying t = some (.slice si.e) ∧ ∃ (i : TypeInfo) (z : Value), P.info? si.e = some i ∧ i.zero = some z ∧ i.size = si.size ∧ i.bytes = si.bytes ∧ 0 < si.size ∧ si.zero.length = si.size ∧
    (∀ ρ : Nm, denL ρ si.zero = z.cells.toList) ∧ ∀ c ∈ si.zero, c.name = none := by
  unfold mkSI at h
  split at h
  · rename_i e he
    split at h
    · rename_i i hi
      split at h
      · rename_i z hz
        split at h
        · rename_i l hl
          split at h
          · rename_i h1 h2
            cases h
            have hp : 1 ≤ i.size := by simpa [Nat.blt] using h2
            exact ⟨he, i, z, hi, hz, rfl, rfl, hp, (beq_iff _ _).1 h1, fun ρ => (ofValues_den ρ hl).1, (ofValues_den Nm.id hl).2⟩
          · cases h
        · cases h
      · cases h
    · cases h
  · cases h
theorem repsL_len (z : List Cell) : ∀ n, (repsL z n).length = n * z.length
  | 0 => by simp [repsL]
  | n + 1 => by simp [repsL, repsL_len z n, Nat.succ_mul]; omega
theorem repsL_mem {z : List Cell} : ∀ {n : Nat} {c : Cell}, c ∈ repsL z n → c ∈ z
  | 0, c, h => by cases h
  | n + 1, c, h => by
    rcases List.mem_append.1 h with h | h
    · exact h
    · exact repsL_mem h
theorem repsL_get (z : List Cell) (hz : 0 < z.length) : ∀ (n j : Nat), j < n * z.length → (repsL z n)[j]? = z[j % z.length]?
  | 0, j, h => by omega
  | n + 1, j, h => by
    simp only [repsL]
    rcases Nat.lt_or_ge j z.length with hj | hj
    · rw [List.getElem?_append_left hj, Nat.mod_eq_of_lt hj]
    · rw [List.getElem?_append_right hj, repsL_get z hz n (j - z.length) (by rw [Nat.succ_mul] at h; omega), ← Nat.mod_eq_sub_mod hj]
theorem den_len (ρ : Nm) (l : List Cell) : (denL ρ l).length = l.length := by simp [denL]
theorem den_get (ρ : Nm) (l : List Cell) (j : Nat) (v : Value) (h : (denL ρ l)[j]? = some v) : ∃ c, l[j]? = some c ∧ v = c.den ρ := by
  simp only [denL, List.getElem?_map, Option.map_eq_some_iff] at h
  obtain ⟨c, hc, rfl⟩ := h
  exact ⟨c, hc, rfl⟩
theorem set_L (ρ : Nm) (n : Nat) (l : Loc) (S : Nat → Prop) : (ρ.set n l S).L n = l ∧ (ρ.set n l S).S n = S := ρ.set_self n l S

/-- a new array at a name -/
theorem own_arr {ρ : Nm} {H : Hp AV} {w : World} (hO : Own N ρ H w) (hC : ClHp N H) {nm : Nat} (hn : hget H nm = none) (hlt : nm < H.length) (hG : ¬ nm < N.G) {l : List Cell} {es cap : Nat} {e : TypeId} (hl : ClL H l) {L : Nat} (hL : L ≤ nm) {row : Array Value}
    (hsize : row.size = cap * es) (hle : l.length ≤ cap * es) (hrow : ∀ (j : Nat) v, (denL ρ l)[j]? = some v → row[j]? = some v) :
    Own N (ρ.set nm ⟨w.heap.size, 0, cap + 1⟩ fun k => k = w.heap.size) (lset H nm (some (.vec l es e))) (w.alloc (.cells row e)) ∧
    Evo N L ρ H w (ρ.set nm ⟨w.heap.size, 0, cap + 1⟩ fun k => k = w.heap.size) (lset H nm (some (.vec l es e))) (w.alloc (.cells row e)) ∧
    ClHp N (lset H nm (some (.vec l es e))) := by
  have hne : ∀ n c, hget H n = some c → n ≠ nm := fun n c h e => by subst e; rw [hn] at h; cases h
  have hden : denL (ρ.set nm ⟨w.heap.size, 0, cap + 1⟩ fun k => k = w.heap.size) l = denL ρ l := denL_congr hl fun n c h => (ρ.set_ne _ _ (hne n c h)).1
  refine own_new hO hC hn hlt hG (ck := .vec l es e) hl hL (fun k hk => ?_) rfl rfl rfl ?_ ?_ ?_
  · show (w.heap.push _)[k]? = _
    rw [Array.getElem?_push, if_neg (by omega)]
  · show w.heap.size ≤ (w.heap.push _).size; simp
  · show vecQ _ _ _ _ _ _
    rw [(set_L _ _ _ _).1, (set_L _ _ _ _).2, hden]
    refine .inr ⟨by simp, fun k => Iff.rfl, row.toList, ?_, ?_, ?_, ?_⟩
    · show (w.heap.push _)[w.heap.size]? = _
      simp
    · simp [hsize]
    · rw [den_len]; simpa using hle
    · intro j v hv
      have := hrow j v hv
      simpa using this
  · intro k hk
    have hk : (ρ.set nm ⟨w.heap.size, 0, cap + 1⟩ fun k => k = w.heap.size).S nm k := hk
    rw [(set_L _ _ _ _).2] at hk
    omega
theorem vs_den_new {ρ : Nm} {nm len cap es b : Nat} {S : Nat → Prop} : (SV.v (.c (.vs nm 0 len es true))).den (ρ.set nm ⟨b, 0, cap + 1⟩ S) = .slice (some ⟨b, 0, none⟩) len cap := by
  simp only [SV.den, V1.den, Cell.den, vsDen, (set_L _ _ _ _).1]
  rw [if_neg (by omega)]
  simp
theorem made_eq (ρ : Nm) {z : Value} {si : SI} (hzd : denL ρ si.zero = z.cells.toList) (hzl : si.zero.length = si.size) (hpos : 0 < si.size) (n : Nat) : (Array.range (n * si.size)).map (z.cells[· % z.cells.size]!) = (denL ρ (repsL si.zero n)).toArray := by
  have hsz : z.cells.size = si.size := by
    have := congrArg List.length hzd
    rw [den_len] at this
    simp at this
    omega
  apply Array.ext'
  apply List.ext_getElem?
  intro j
  rw [hsz]
  by_cases hj : j < n * si.size
  · have hlt : j % si.size < z.cells.size := by rw [hsz]; exact Nat.mod_lt _ hpos
    have h1 : (denL ρ (repsL si.zero n))[j]? = z.cells.toList[j % si.size]? := by
      rw [← hzd]
      simp only [denL, List.getElem?_map]
      rw [repsL_get si.zero (by omega) n j (by rw [hzl]; exact hj), hzl]
    simp only [List.getElem?_toArray, h1]
    rw [Array.getElem?_toList, Array.getElem?_map, Array.getElem?_range, if_pos hj]
    simp only [Option.map_some]
    rw [getElem!_pos z.cells (j % si.size) hlt, Array.getElem?_toList, Array.getElem?_eq_getElem hlt]
  · rw [List.getElem?_eq_none (by simp; omega), List.getElem?_eq_none (by simp [den_len, repsL_len, hzl]; omega)]
/-- 'buildSlice', in the world -/
theorem bslice_run (hT : TblOk P N) {ρ : Nm} {H : Hp AV} {ev : Operand → Option SV} {e : Operand → Value} (hev : EvOk ρ H ev e) {t : TypeId} {len : Nat} {parts : Array (Nat × Operand)} {arr : Arr} (h : mkBuild N t len (evlP ev parts.toList) = some arr) (w : World) : ClL H arr.1 ∧ ∃ row cap,
    (Instr.buildSlice t len (parts.map fun (i, x) => (i, e x))).run P w = .ok (.slice (some ⟨w.heap.size, 0, none⟩) arr.2.2.2 cap) (w.alloc (.cells row arr.2.2.1)) ∧ row.size = cap * arr.2.1 ∧ arr.1.length ≤ cap * arr.2.1 ∧ ∀ (j : Nat) v, (denL ρ arr.1)[j]? = some v → row[j]? = some v := by
  unfold mkBuild at h
  split at h
  · rename_i si ps hs hp
    split at h
    · rename_i l hl hb
      cases h
      obtain ⟨hu, i, z, hi, hz, e1, e2, hpos, hzl, hzd, hzn⟩ := mkSI_spec (hT.sl t si hs)
      obtain ⟨hp1, hp2⟩ := evlP_den hev hp
      have hcl0 : ClL H (repsL si.zero len) := clL_nil fun c hc => hzn c (repsL_mem hc)
      have hfill := fillA_den (ρ := ρ) (H := H) si.size ps (repsL si.zero len) l hl hcl0 hp2
      have hlen : l.length = len * si.size := by
        have h1 : ∀ (ps : List (Nat × V1)) (z r : List Cell), fillA si.size z ps = some r → r.length = z.length := by
          intro ps
          induction ps with
          | nil => intro z r h; simp only [fillA, Option.some.injEq] at h; rw [h]
          | cons p ps ih =>
            intro z r h
            obtain ⟨i, x⟩ := p
            simp only [fillA] at h
            split at h
            · split at h
              · rename_i z' hz'
                rw [ih z' r h]
                obtain ⟨q1, q2⟩ := lput_eq hz'
                rw [q1]
                simp
                omega
              · cases h
            · cases h
        rw [h1 ps _ l hl, repsL_len, hzl]
      have hle := Nat.le_of_ble_eq_true hb
      refine ⟨hfill.2, (denL ρ l).toArray, len, ?_, by simp [den_len, hlen], by simp [hlen], fun j v hv => by simpa using hv⟩
      have h3 := hfill.1
      rw [← hp1] at h3
      have hm := made_eq ρ (hzd ρ) hzl hpos len
      unfold Instr.buildSlice
      simp only [Sem.run_bind, run_underlying hu, sizeOf, typeInfo, program, Sem.run, hi, Result.andThen_ok, Sem.run_pure, e1]
      rw [if_neg (by omega)]
      by_cases h0 : len * si.size = 0
      · have : len = 0 := by
          rcases Nat.mul_eq_zero.1 h0 with h | h
          · exact h
          · omega
        subst this
        have h3' : Instr.fill (fun i => some (i * si.size, si.size)) #[] (parts.toList.map fun p => (p.1, e p.2)) = some (denL ρ l).toArray := h3
        have hr0 : (Array.range 0) = #[] := rfl
        simp [h3', hr0, newRow, newObj, Sem.run]
      · have hm' : (Array.range (len * si.size)).map (fun x => z.cells[x % z.cells.size]!) = (denL ρ (repsL si.zero len)).toArray := hm
        simp only [if_neg h0, zeroValue, typeInfo, program, Sem.run_bind, Sem.run, hi, hz, Result.andThen_ok, Sem.run_pure]
        simp only [hm']
        simp [h3, newRow, newObj, Sem.run]
    · cases h
  · cases h
/-- 'make', in the world -/
theorem make_run (hT : TblOk P N) {t : TypeId} {a b : Option SV} {arr : Arr} (h : mkMake N t a b = some arr) (w : World) (ρ : Nm) : ∃ kl kc n c, a = some (.v (.c (.il kl n))) ∧ b = some (.v (.c (.il kc c))) ∧ (∀ x ∈ arr.1, x.name = none) ∧ ∃ row cap,
    (Instr.makeSlice t (.int kl n) (.int kc c)).run P w = .ok (.slice (some ⟨w.heap.size, 0, none⟩) arr.2.2.2 cap) (w.alloc (.cells row arr.2.2.1)) ∧ row.size = cap * arr.2.1 ∧ arr.1.length ≤ cap * arr.2.1 ∧ ∀ (j : Nat) v, (denL ρ arr.1)[j]? = some v → row[j]? = some v := by
  unfold mkMake at h
  split at h
  · rename_i si kl n kc c hs
    split at h
    · rename_i hb
      cases h
      obtain ⟨h0, h1, h2⟩ := of_decide_eq_true hb
      obtain ⟨hu, i, z, hi, hz, e1, e2, hpos, hzl, hzd, hzn⟩ := mkSI_spec (hT.sl t si hs)
      have hcb : c.toNat * si.bytes ≤ lim := Nat.le_trans (Nat.mul_le_mul_left _ (Nat.le_succ _)) h2
      have hcn : c.toNat ≤ lim := by
        have : c.toNat * 1 ≤ c.toNat * (si.bytes + 1) := Nat.mul_le_mul_left _ (by omega)
        omega
      have hc0 : (c.toNat : Int) = c := by omega
      have hr := run_make (P := P) w t si.e i z hu hi hz kl kc n c h0 h1 (by
        rw [e2, ← hc0, ← Int.natCast_mul, Nat.mul_comm]
        simp only [lim] at hcb
        omega) (by simp only [lim] at hcn; omega)
      have hsz : z.cells.size = si.size := by
        have := congrArg List.length (hzd Nm.id)
        rw [den_len] at this
        simp at this
        omega
      refine ⟨kl, kc, n, c, rfl, rfl, fun x hx => hzn x (repsL_mem hx), _, c.toNat, hr, by rw [size_madeCells, e1], by rw [repsL_len, hzl]; exact Nat.le_refl _, fun j v hv => ?_⟩
      obtain ⟨cc, hcc, rfl⟩ := den_get ρ _ j v hv
      have hj : j < c.toNat * si.size := by
        have := (List.getElem?_eq_some_iff.1 hcc).1
        rw [repsL_len, hzl] at this
        exact this
      rw [repsL_get si.zero (by omega) _ j (by rw [hzl]; exact hj), hzl] at hcc
      have hzj : z.cells.toList[j % si.size]? = some (cc.den ρ) := by
        rw [← hzd ρ]
        simp [denL, hcc]
      simp only [madeCells, Array.getElem?_map, e1]
      rw [Array.getElem?_range]
      rw [if_pos hj]
      simp only [Option.map_some, hsz]
      have hlt : j % si.size < z.cells.size := by rw [hsz]; exact Nat.mod_lt _ hpos
      rw [getElem!_pos z.cells (j % si.size) hlt]
      rw [Array.getElem?_toList, Array.getElem?_eq_getElem hlt] at hzj
      exact hzj
    · cases h
  · cases h
end Go.Sx
