/- Arguments, from how they read as data to how the walks have them: a configuration by value, its points. -/
import Derived.Test.YtjooacmmgbpkfaaDoorCfgAll
import Derived.Test.YtjooacmmgbpkfaaDoorOpen
import Derived.Deep.Slices
import Derived.Deep.Fields
import Derived.ChangeSame
namespace Go.Proofs.YtjooacmmgbpkfaaDoor
open Go.ChangeShapes Go.WideShapes Go.ChangeAt Go.RowKit Go.Deep

section
variable {H : Type} {enc : TypeId × Value → H} {P : Program} {w : World} {base : Nat} {spare : Nat → Bool} {held : Bool}
/-- A struct's fields, each as its own reading. -/
theorem open_fields {t : TypeId} {fs : Array Field} {fuel : Nat} {cs : List Value} {x : DataW H × List MemPlace} (L : List (TypeId × Nat × Nat)) (ht : P.underlying t = some (.struct fs)) (hL : fs.toList.map (fun f => (f.type, f.offset, P.cellsOf f.type)) = L)
    (h : DataW.trod enc P w base spare held fuel t cs = some x) : cs.length = P.cellsOf t ∧ ∃ n, ∀ (j : Nat) (k : TypeId × Nat × Nat), L[j]? = some k → ∃ y, DataW.trod enc P w base spare held n k.1 ((cs.drop k.2.1).take k.2.2) = some y := by
  obtain ⟨xs, n, _, _, hlen, hxl, hf⟩ := DataW.trod_struct ht h
  refine ⟨hlen, n, fun j k hj => ?_⟩
  have h1 := congrArg (fun l => l[j]?) hL
  simp only [List.getElem?_map, hj] at h1
  cases hfj : fs.toList[j]? with
  | none => rw [hfj] at h1; cases h1
  | some f =>
    rw [hfj] at h1
    simp only [Option.map_some, Option.some.injEq] at h1
    subst h1
    have hfa : fs[j]? = some f := by simpa using hfj
    have h2 := hf j f hfa
    have hjl : j < xs.length := by rw [hxl]; exact (Array.getElem?_eq_some_iff.1 hfa).1
    rw [List.getElem?_eq_getElem hjl] at h2
    exact ⟨_, h2⟩
/-- A slice of structs of one-cell fields. -/
theorem open_slice_fields {t e : TypeId} {fs : Array Field} {fuel : Nat} {cs : List Value} {x : DataW H × List MemPlace} (ht : P.underlying t = some (.slice e)) (he : P.underlying e = some (.struct fs))
    (hone : oneCellFields P fs = true) (hC : P.cellsOf e = fs.size) (h : DataW.trod enc P w base spare held fuel t cs = some x) :
    cs = [.slice none 0 0] ∨
    ∃ (a : Addr) (len cap m : Nat), cs = [.slice (some a) len cap] ∧ len ≤ cap ∧ cap ≤ maxLen ∧ m = (if spare a.block then cap else len) ∧
      ∀ i, i < m → ∃ n : Nat, ∀ (j : Nat) (f : Field), fs[j]? = some f → ∃ (v : Value) (y : DataW H × List MemPlace), w.cell? (a.add (i * fs.size + j)) = some v ∧ DataW.trod enc P w base spare held n f.type [v] = some y := by
  rcases open_slice ht h with h0 | ⟨a, len, cap, m, n, D, Pl, hcs, hb, hl, hm, hmm, hx, hi⟩
  · exact .inl h0.1
  · refine .inr ⟨a, len, cap, m, hcs, hl, hm, hmm, fun i him => ?_⟩
    obtain ⟨cs', hc, ht'⟩ := hi i him
    rw [hC] at hc
    obtain ⟨ys, n', hn', hy, hlen, hyl, hf⟩ := DataW.trod_struct he ht'
    obtain ⟨_, hcl, hat⟩ := World.cells?_some hc
    refine ⟨n', fun j f hj => ?_⟩
    obtain ⟨ho, hk⟩ := hone_of hone j f hj
    have hjl : j < fs.size := (Array.getElem?_eq_some_iff.1 hj).1
    have hcell := hat j hjl
    have hv : cs'[j]? = some (cs'[j]'(by omega)) := List.getElem?_eq_getElem (by omega)
    have h1 := hf j f hj
    rw [ho, hk] at h1
    have hone' : (cs'.drop j).take 1 = [cs'[j]'(by omega)] := by
      rw [List.drop_eq_getElem_cons (by omega)]
      rfl
    rw [hone'] at h1
    have hys : ys[j]? = some (ys[j]'(by omega)) := List.getElem?_eq_getElem (by omega)
    refine ⟨_, _, ?_, h1.trans hys⟩
    rw [← Go.Deep.add_add, hcell, hv]
end

def intAt (W : World) (a : Addr) : Int := match W.cell? a with | some (.int _ n) => n | _ => 0
theorem pt_one : oneCellFields Tryd.prog (Tryd.prog.fieldsOf 47) = true := by kernel_rfl
theorem pt_size : (Tryd.prog.fieldsOf 47).size = 5 := by kernel_rfl
theorem pt_cells : Tryd.prog.cellsOf 47 = (Tryd.prog.fieldsOf 47).size := by kernel_rfl
theorem pt_types : (Tryd.prog.fieldsOf 47).toList.map (fun f => f.type) = [3, 3, 3, 3, 3] := by kernel_rfl
theorem pt_under : Tryd.prog.underlying 47 = some (.struct (Tryd.prog.fieldsOf 47)) := by kernel_rfl
theorem type_at {fs : Array Field} {L : List TypeId} (h : fs.toList.map (fun f => f.type) = L) {j : Nat} {t : TypeId} (hj : L[j]? = some t) : ∃ f, fs[j]? = some f ∧ f.type = t := by
  have h1 := congrArg (fun l => l[j]?) h
  simp only [List.getElem?_map, hj] at h1
  cases hf : fs.toList[j]? with
  | none => rw [hf] at h1; cases h1
  | some f =>
    rw [hf] at h1
    simp only [Option.map_some, Option.some.injEq] at h1
    exact ⟨f, by simpa using hf, h1⟩
/-- A slice of points that came in. -/
theorem open_pts {H : Type} {enc : TypeId × Value → H} {W : World} {m : Nat} {c : Value} {y : DataW H × List MemPlace} (hf : DataW.trod enc Tryd.prog W 0 (fun _ => true) true m 24 [c] = some y) : ∃ l : List Pt, Sz W 5 c l.length (l.flatMap Pt.vals) := by
  rcases open_slice_fields Tryd.underlying24 pt_under pt_one pt_cells hf with hcs | ⟨a, len, cap, m, hcs, hl, hm, hmm, hat⟩
  · simp at hcs
    subst hcs
    exact ⟨[], Sz.nil W 5⟩
  · simp at hcs
    subst hcs
    rw [pt_size] at hat
    have hcell : ∀ i j, i < len → j < 5 → W.cell? (a.add (i * 5 + j)) = some (.int .i64 (intAt W (a.add (i * 5 + j)))) := by
      intro i j hi hj
      obtain ⟨n, h1⟩ := hat i (by simp at hmm; omega)
      obtain ⟨f, hf1, hf2⟩ := type_at pt_types (j := j) (t := 3) (by
        match j, hj with
        | 0, _ => rfl
        | 1, _ => rfl
        | 2, _ => rfl
        | 3, _ => rfl
        | 4, _ => rfl)
      obtain ⟨v, y, hv, hy⟩ := h1 j f hf1
      rw [hf2] at hy
      obtain ⟨k, e, _⟩ := DataW.trod_int Tryd.underlying3 hy
      simp at e
      subst e
      rw [hv]
      unfold intAt
      rw [hv]
    let pt : Nat → Pt := fun i => ⟨intAt W (a.add (i * 5 + 0)), intAt W (a.add (i * 5 + 1)), intAt W (a.add (i * 5 + 2)), intAt W (a.add (i * 5 + 3)), intAt W (a.add (i * 5 + 4))⟩
    refine ⟨(List.range len).map pt, ?_⟩
    have hll : ((List.range len).map pt).length = len := by simp
    rw [hll]
    refine ⟨by rw [flat_length Pt.vals 5 Pt.vals_length, hll], some a, cap, rfl, hl, hm, by simp, ?_⟩
    by_cases h0 : len = 0
    · exact .inl h0
    · have hat0 := hcell 0 0 (by omega) (by omega)
      obtain ⟨b, off, r⟩ := a
      have hr : r = none := by simpa [Addr.add] using World.cell?_spot hat0
      subst hr
      refine .inr ⟨b, off, rfl, fun i hi => ?_⟩
      obtain ⟨q, r, hr, rfl⟩ : ∃ q r, r < 5 ∧ i = q * 5 + r := ⟨i / 5, i % 5, by omega, by omega⟩
      have hq : q < len := by omega
      rw [flat_get Pt.vals 5 Pt.vals_length _ q r hr, List.getElem?_map, List.getElem?_range hq]
      have := hcell q r hq hr
      rw [add_mk] at this
      rw [this]
      match r, hr with
      | 0, _ => simp [pt, Pt.vals, add_mk]
      | 1, _ => simp [pt, Pt.vals, add_mk]
      | 2, _ => simp [pt, Pt.vals, add_mk]
      | 3, _ => simp [pt, Pt.vals, add_mk]
      | 4, _ => simp [pt, Pt.vals, add_mk]
theorem cfg_under : Tryd.prog.underlying 26 = some (.struct (Tryd.prog.fieldsOf 26)) := by kernel_rfl
theorem cfg_fields : (Tryd.prog.fieldsOf 26).toList.map (fun f => (f.type, f.offset, Tryd.prog.cellsOf f.type)) = [(22, 0, 3), (3, 3, 1), (3, 4, 1), (3, 5, 1), (3, 6, 1), (3, 7, 1), (3, 8, 1), (23, 9, 1), (24, 10, 1)] := by kernel_rfl
theorem cfg_size : Tryd.prog.cellsOf 26 = 11 := by kernel_rfl
theorem u8_size : Tryd.prog.cellsOf 5 = 1 := by kernel_rfl
set_option maxRecDepth 100000 in
/-- A configuration that came in, by value. -/
theorem open_cfg {H : Type} {enc : TypeId × Value → H} {W : World} {r : Reach} {b0 : Nat} {v : Value} {d : DataW H} {p : List MemPlace} (hv : Value.okWide Tryd.prog W r b0 26 v) (h : DataW.Trod enc Tryd.prog W 0 (fun _ => true) true 26 v d p) :
    ∃ c vp, v = Cfg.val c vp ∧ CfgIn W c vp := by
  obtain ⟨cs, rfl, hsz⟩ := okWide_struct cfg_under hv
  obtain ⟨l⟩ := cs
  rw [cfg_size] at hsz
  match l, hsz with
  | [c0, c1, c2, c3, c4, c5, c6, c7, c8, c9, c10], _ =>
    obtain ⟨fuel, hf⟩ := h
    obtain ⟨_, n, hat⟩ := open_fields _ cfg_under cfg_fields hf
    obtain ⟨y0, h0⟩ := hat 0 _ rfl
    obtain ⟨y1, h1⟩ := hat 1 _ rfl
    obtain ⟨y2, h2⟩ := hat 2 _ rfl
    obtain ⟨y3, h3⟩ := hat 3 _ rfl
    obtain ⟨y4, h4⟩ := hat 4 _ rfl
    obtain ⟨y5, h5⟩ := hat 5 _ rfl
    obtain ⟨y6, h6⟩ := hat 6 _ rfl
    obtain ⟨y7, h7⟩ := hat 7 _ rfl
    obtain ⟨y8, h8⟩ := hat 8 _ rfl
    simp only [Value.cells, List.drop_succ_cons, List.drop_zero, List.take_succ_cons, List.take_zero] at h0 h1 h2 h3 h4 h5 h6 h7 h8
    obtain ⟨xs, m, _, _, _, hxl, hu⟩ := DataW.trod_array Tryd.underlying22 h0
    rw [u8_size] at hu
    have u0 := hu 0 (by omega)
    have u1 := hu 1 (by omega)
    have u2 := hu 2 (by omega)
    rw [List.getElem?_eq_getElem (by omega)] at u0 u1 u2
    obtain ⟨z0, e0, _, w0⟩ := DataW.trod_int Tryd.underlying5 u0
    obtain ⟨z1, e1, _, w1⟩ := DataW.trod_int Tryd.underlying5 u1
    obtain ⟨z2, e2, _, w2⟩ := DataW.trod_int Tryd.underlying5 u2
    simp at e0 e1 e2
    obtain ⟨z3, e3, _, _⟩ := DataW.trod_int Tryd.underlying3 h1
    obtain ⟨z4, e4, _, _⟩ := DataW.trod_int Tryd.underlying3 h2
    obtain ⟨z5, e5, _, _⟩ := DataW.trod_int Tryd.underlying3 h3
    obtain ⟨z6, e6, _, _⟩ := DataW.trod_int Tryd.underlying3 h4
    obtain ⟨z7, e7, _, _⟩ := DataW.trod_int Tryd.underlying3 h5
    obtain ⟨z8, e8, _, _⟩ := DataW.trod_int Tryd.underlying3 h6
    obtain ⟨z9, e9, _, w9⟩ := DataW.trod_int Tryd.underlying23 h7
    simp at e3 e4 e5 e6 e7 e8 e9
    obtain ⟨pts, hp⟩ := open_pts h8
    have b0 := wf_u8 w0
    have b1 := wf_u8 w1
    have b2 := wf_u8 w2
    have b9 := wf_u16 w9
    subst e0 e1 e2 e3 e4 e5 e6 e7 e8 e9
    refine ⟨⟨z0.toNat, z1.toNat, z2.toNat, z3, z4, z5, z6, z7, z8, z9.toNat, pts⟩, c10, ?_, hp, ⟨by simp only; omega, by simp only; omega, by simp only; omega⟩, by simp only; omega⟩
    unfold Cfg.val Cfg.cells
    simp only [Int.toNat_of_nonneg b0.1, Int.toNat_of_nonneg b1.1, Int.toNat_of_nonneg b2.1, Int.toNat_of_nonneg b9.1]
end Go.Proofs.YtjooacmmgbpkfaaDoor
