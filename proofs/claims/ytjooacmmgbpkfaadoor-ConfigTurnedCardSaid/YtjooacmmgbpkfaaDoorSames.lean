/- Contracts of config.Same, slices.Equal at points, triuneref09.Points, triuneref09.Same. -/
import Derived.Test.YtjooacmmgbpkfaaDoorRef01
import Derived.Test.YtjooacmmgbpkfaaDoorCheck
import Derived.Test.YtjooacmmgbpkfaaDoorLive2
import Derived.Test.YtjooacmmgbpkfaaDoorRegG
namespace Go.Proofs.YtjooacmmgbpkfaaDoor
open Go.RowKit

/-- Fields that are integers, compared. -/
theorem eqFields_ints {P : Program} (w : World) (d : Nat) (xs ys : Array Value) (fs : List Field) (vs : List (Int × Int × IntKind)) (h : fs.length = vs.length)
    (hf : ∀ (i : Nat) (f : Field) (v : Int × Int × IntKind), fs[i]? = some f → vs[i]? = some v → f.name ≠ "_" ∧ (∃ k, P.underlying f.type = some (.int k)) ∧ xs[f.offset]? = some (.int v.2.2 v.1) ∧ ys[f.offset]? = some (.int v.2.2 v.2.1)) :
    (Op.eqFields (d + 1) xs ys fs).run P w = .ok (vs.all fun v => v.1 == v.2.1) w := by
  induction fs generalizing vs with
  | nil =>
    cases vs with
    | nil => rfl
    | cons v vs => simp at h
  | cons f fs ih =>
    cases vs with
    | nil => simp at h
    | cons v vs =>
      obtain ⟨h1, ⟨k, h2⟩, h3, h4⟩ := hf 0 f v rfl rfl
      have px : (part f.type xs f.offset).run P w = .ok (.int v.2.2 v.1) w := by
        simp [part, isAgg, run_underlying h2, h3]
      have py : (part f.type ys f.offset).run P w = .ok (.int v.2.2 v.2.1) w := by
        simp [part, isAgg, run_underlying h2, h4]
      rw [Op.eqFields, if_pos h1]
      simp only [Sem.run_bind, px, py, Result.andThen_ok, run_equalIn_int w d f.type v.2.2 k _ _ h2, List.all_cons]
      cases hb : (v.1 == v.2.1)
      · simp
      · simp only [Bool.not_true, Bool.false_eq_true, if_false, Bool.true_and]
        exact ih vs (by simpa using h) (fun i f v hi hv => hf (i + 1) f v (by simpa using hi) (by simpa using hv))
theorem fields_pt : (Tryd.prog.fieldsOf 47).toList.map (fun f => (decide (f.name ≠ "_"), f.type, f.offset)) = [(true, 3, 0), (true, 3, 1), (true, 3, 2), (true, 3, 3), (true, 3, 4)] := by kernel_rfl
set_option maxRecDepth 100000 in
theorem eq_pt (p q : Pt) (w : World) : (Op.equalIn 10000 47 (.agg p.vals.toArray) (.agg q.vals.toArray)).run Tryd.prog w = .ok ((([(p.kind, q.kind, .i64), (p.addr, q.addr, .i64), (p.at_, q.at_, .i64), (p.band, q.band, .i64), (p.safe, q.safe, .i64)] : List (Int × Int × IntKind))).all fun v => v.1 == v.2.1) w := by
  rw [run_equalIn_struct _ 9999 _ _ _ (by kernel_rfl) (by kernel_rfl)]
  have hl := congrArg List.length fields_pt
  refine eqFields_ints w 9998 _ _ _ _ (by simpa using hl) ?_
  intro i f v hf hv
  have h := congrArg (fun l => l[i]?) fields_pt
  simp only [List.getElem?_map, hf, Option.map_some] at h
  match i, hv, h with
  | 0, hv, h => simp at hv h; subst hv; rw [h.2.1, h.2.2]; exact ⟨h.1, ⟨_, Tryd.underlying3⟩, rfl, rfl⟩
  | 1, hv, h => simp at hv h; subst hv; rw [h.2.1, h.2.2]; exact ⟨h.1, ⟨_, Tryd.underlying3⟩, rfl, rfl⟩
  | 2, hv, h => simp at hv h; subst hv; rw [h.2.1, h.2.2]; exact ⟨h.1, ⟨_, Tryd.underlying3⟩, rfl, rfl⟩
  | 3, hv, h => simp at hv h; subst hv; rw [h.2.1, h.2.2]; exact ⟨h.1, ⟨_, Tryd.underlying3⟩, rfl, rfl⟩
  | 4, hv, h => simp at hv h; subst hv; rw [h.2.1, h.2.2]; exact ⟨h.1, ⟨_, Tryd.underlying3⟩, rfl, rfl⟩
  | i + 5, hv, h => simp at hv
theorem neq_pt (p q : Pt) (b : Bool) (hb : b = true ↔ p = q) (w : World) : (binOp .neq 47 (.agg #[.int .i64 p.kind, .int .i64 p.addr, .int .i64 p.at_, .int .i64 p.band, .int .i64 p.safe]) (.agg #[.int .i64 q.kind, .int .i64 q.addr, .int .i64 q.at_, .int .i64 q.band, .int .i64 q.safe])).run Tryd.prog w = .ok (.bool (!b)) w := by
  rw [run_neq_struct]
  have h := eq_pt p q w
  unfold Pt.vals at h
  rw [h]
  have e : (([(p.kind, q.kind, .i64), (p.addr, q.addr, .i64), (p.at_, q.at_, .i64), (p.band, q.band, .i64), (p.safe, q.safe, .i64)] : List (Int × Int × IntKind))).all (fun v => v.1 == v.2.1) = b := by
    rw [Bool.eq_iff_iff, hb]
    cases p
    cases q
    simp
  rw [e]
  rfl
theorem guard_pt : Tryd.prog.eqGuardType Tryd.prog.depth 47 = false := by kernel_rfl

/-- Arrays of integers, compared. -/
theorem all_range_int : ∀ (xs ys : List Int), xs.length = ys.length → ((List.range xs.length).all fun i => xs.getD i 0 == ys.getD i 0) = (xs == ys)
  | [], [], _ => rfl
  | x :: xs, y :: ys, h => by
    have ih := all_range_int xs ys (by simpa using h)
    rw [List.length_cons, List.range_succ_eq_map, List.all_cons, List.all_map]
    simp only [List.getD_cons_zero, Function.comp_def, List.getD_cons_succ, ih]
    simp [List.cons_beq_cons]
  | [], _ :: _, h => by simp at h
  | _ :: _, [], h => by simp at h
theorem run_equalIn_arr {P : Program} (w : World) (d : Nat) (t e : TypeId) (n : Nat) (k : IntKind) (ht : P.underlying t = some (.array n e)) (he : P.underlying e = some (.int k)) (hsz : ∀ w, (sizeOf e).run P w = .ok 1 w)
    (xs ys : List Int) (hx : xs.length = n) (hy : ys.length = n) :
    (Op.equalIn (d + 2) t (.agg (xs.map (Value.int k)).toArray) (.agg (ys.map (Value.int k)).toArray)).run P w = .ok (xs == ys) w := by
  rw [← all_range_int xs ys (hx.trans hy.symm), hx, List.range_eq_range', Op.equalIn]
  simp only [Sem.run_bind, run_underlying ht, Result.andThen_ok, hsz, Std.Legacy.Range.forIn_eq_forIn_range', Std.Legacy.Range.size, Nat.sub_zero, Nat.add_sub_cancel, Nat.div_one]
  have hl : ∀ i ∈ List.range' 0 n 1, i < n := fun i hi => by simpa using (List.mem_range'_1.1 hi).2
  generalize List.range' 0 n 1 = l at hl ⊢
  induction l with
  | nil => simp
  | cons i l ih =>
    have hi : i < n := hl i (by simp)
    have px : (part e (xs.map (Value.int k)).toArray (i * 1)).run P w = .ok (.int k (xs.getD i 0)) w := by
      simp [part, isAgg, run_underlying he, List.getD, List.getElem?_eq_getElem (show i < xs.length by omega)]
    have py : (part e (ys.map (Value.int k)).toArray (i * 1)).run P w = .ok (.int k (ys.getD i 0)) w := by
      simp [part, isAgg, run_underlying he, List.getD, List.getElem?_eq_getElem (show i < ys.length by omega)]
    have pe : (Op.equalIn (d + 1) e (.int k (xs.getD i 0)) (.int k (ys.getD i 0))).run P w = .ok (xs.getD i 0 == ys.getD i 0) w := run_equalIn_int w d e k k _ _ he
    simp only [List.forIn_cons, Sem.run_bind, px, py, pe, Result.andThen_ok, List.all_cons]
    cases hb : (xs.getD i 0 == ys.getD i 0)
    · simp
    · simp only [Bool.not_true, Bool.false_eq_true, if_false, Sem.run_pure, Result.andThen_ok, Bool.true_and]
      exact ih fun j hj => hl j (by simp [hj])
theorem size8 (w : World) : (sizeOf 5).run Tryd.prog w = .ok 1 w := by kernel_rfl
theorem size64 (w : World) : (sizeOf 3).run Tryd.prog w = .ok 1 w := by kernel_rfl
set_option maxRecDepth 100000 in
theorem eq_units (a b c x y z : Nat) (r : Bool) (hr : r = true ↔ a = x ∧ b = y ∧ c = z) (w : World) : (binOp .eql 22 (.agg #[.int .u8 (a : Int), .int .u8 (b : Int), .int .u8 (c : Int)]) (.agg #[.int .u8 (x : Int), .int .u8 (y : Int), .int .u8 (z : Int)])).run Tryd.prog w = .ok (.bool r) w := by
  rw [run_eql_struct]
  have h := run_equalIn_arr w 9998 22 5 3 .u8 Tryd.underlying22 Tryd.underlying5 size8 [(a : Int), b, c] [(x : Int), y, z] rfl rfl
  simp only [List.map_cons, List.map_nil] at h
  rw [h]
  have e : ([(a : Int), b, c] == [(x : Int), y, z]) = r := by
    rw [Bool.eq_iff_iff, hr]
    simp
    omega
  rw [e]
  rfl
set_option maxRecDepth 100000 in
theorem eq_nums (a b c d e f g a' b' c' d' e' f' g' : Int) (r : Bool) (hr : r = true ↔ a = a' ∧ b = b' ∧ c = c' ∧ d = d' ∧ e = e' ∧ f = f' ∧ g = g') (w : World) :
    (binOp .eql 73 (.agg #[.int .i64 a, .int .i64 b, .int .i64 c, .int .i64 d, .int .i64 e, .int .i64 f, .int .i64 g]) (.agg #[.int .i64 a', .int .i64 b', .int .i64 c', .int .i64 d', .int .i64 e', .int .i64 f', .int .i64 g'])).run Tryd.prog w = .ok (.bool r) w := by
  rw [run_eql_struct]
  have h := run_equalIn_arr w 9998 73 3 7 .i64 Tryd.underlying73 Tryd.underlying3 size64 [a, b, c, d, e, f, g] [a', b', c', d', e', f', g'] rfl rfl
  simp only [List.map_cons, List.map_nil] at h
  rw [h]
  have e : (([a, b, c, d, e, f, g] : List Int) == [a', b', c', d', e', f', g']) = r := by
    rw [Bool.eq_iff_iff, hr]
    simp
  rw [e]
  rfl
theorem guard_units : Tryd.prog.eqGuardType Tryd.prog.depth 22 = false := by kernel_rfl
theorem guard_nums : Tryd.prog.eqGuardType Tryd.prog.depth 73 = false := by kernel_rfl

theorem pts_ext {l m : List Pt} (h : l.length = m.length) (hg : ∀ (i : Nat) (p q : Pt), l[i]? = some p → m[i]? = some q → p = q) : l = m :=
  List.ext_getElem h fun i h1 h2 => hg i _ _ (List.getElem?_eq_getElem h1) (List.getElem?_eq_getElem h2)

set_option maxRecDepth 100000 in
theorem ref_Points (v1 v2 : Value) (l m : List Pt) (w : World) (hl : Sz w 5 v1 l.length (l.flatMap Pt.vals)) (hm : Sz w 5 v2 m.length (m.flatMap Pt.vals)) (b : Bool) (hb : b = true ↔ l = m) :
    Calls Tryd.prog 26 #[v1, v2] w fun e w' => e = .returned (.bool b) ∧ Ext w w' := by
  obtain ⟨a, c, rfl, hlc, hcm, _, hcell⟩ := hl.at_ Pt.vals_length (by omega)
  obtain ⟨a', c', rfl, hlc', hcm', _, hcell'⟩ := hm.at_ Pt.vals_length (by omega)
  unfold maxLen at hcm hcm'
  have HC := Lib.hid hcell
  have HC' := Lib.hid hcell'
  have HB := Lib.hid hb
  clear hcell hcell' hl hm hb
  by_cases hlen : l.length = m.length
  · obtain ⟨n, hn⟩ : ∃ n, n = l.length := ⟨_, rfl⟩
    have HN : Hid (m.length = n) := Lib.hid (by omega)
    rw [HN.out]
    rw [← hn]
    have HN1 := Lib.hid hn
    have hlc2 : n ≤ c := by omega
    have hlc2' : n ≤ c' := by omega
    clear hlen hn hlc hlc'
    have gp := guard_pt
    go_enter Tryd.func26, Tryd.ntmps26
    go_wp2_with fail
    go_loopw [5] (fun i wr => ∃ k : Nat, k ≤ n ∧ i = .int .i64 k ∧ Hid (Ext w wr ∧ ∀ j, j < k → ∀ p q, l[j]? = some p → m[j]? = some q → p = q)) (fun i _ => n - (intOf i).toNat)
    case atStart => exact ⟨0, by omega, rfl, Lib.hid ⟨Ext.refl _, fun j hj => by omega⟩⟩
    case round =>
      obtain ⟨k, hk, rfl, HX⟩ := hrel
      by_cases hlt : k < n
      · obtain ⟨p, hp⟩ : ∃ p, l[k]? = some p := ⟨_, List.getElem?_eq_getElem (by rw [← HN1.out]; exact hlt)⟩
        obtain ⟨q, hq⟩ : ∃ q, m[k]? = some q := ⟨_, List.getElem?_eq_getElem (by rw [HN.out]; exact hlt)⟩
        obtain ⟨b1, off, rfl, _, hcx⟩ := HC.out k p hp
        obtain ⟨b2, off', rfl, _, hcx'⟩ := HC'.out k q hq
        have c0 : wr.cell? ⟨b1, off + k * 5, none⟩ = some (.int .i64 p.kind) := HX.out.1.cell' (hcx 0 _ (by omega) rfl)
        have c1 : wr.cell? ⟨b1, off + k * 5 + 1, none⟩ = some (.int .i64 p.addr) := HX.out.1.cell' (hcx 1 _ (by omega) rfl)
        have c2 : wr.cell? ⟨b1, off + k * 5 + 2, none⟩ = some (.int .i64 p.at_) := HX.out.1.cell' (hcx 2 _ (by omega) rfl)
        have c3 : wr.cell? ⟨b1, off + k * 5 + 3, none⟩ = some (.int .i64 p.band) := HX.out.1.cell' (hcx 3 _ (by omega) rfl)
        have c4 : wr.cell? ⟨b1, off + k * 5 + 4, none⟩ = some (.int .i64 p.safe) := HX.out.1.cell' (hcx 4 _ (by omega) rfl)
        have d0 : wr.cell? ⟨b2, off' + k * 5, none⟩ = some (.int .i64 q.kind) := HX.out.1.cell' (hcx' 0 _ (by omega) rfl)
        have d1 : wr.cell? ⟨b2, off' + k * 5 + 1, none⟩ = some (.int .i64 q.addr) := HX.out.1.cell' (hcx' 1 _ (by omega) rfl)
        have d2 : wr.cell? ⟨b2, off' + k * 5 + 2, none⟩ = some (.int .i64 q.at_) := HX.out.1.cell' (hcx' 2 _ (by omega) rfl)
        have d3 : wr.cell? ⟨b2, off' + k * 5 + 3, none⟩ = some (.int .i64 q.band) := HX.out.1.cell' (hcx' 3 _ (by omega) rfl)
        have d4 : wr.cell? ⟨b2, off' + k * 5 + 4, none⟩ = some (.int .i64 q.safe) := HX.out.1.cell' (hcx' 4 _ (by omega) rfl)
        have hk0 : (0 : Int) ≤ (k : Int) := by omega
        have hkn : (k : Int) < (n : Int) := by omega
        clear hcx hcx'
        have HP := Lib.hid hp
        have HQ := Lib.hid hq
        clear hp hq
        by_cases hpq : p = q
        · have hne := neq_pt p q true (by simp [hpq])
          have HPQ := Lib.hid hpq
          clear hpq
          go_wp2_with fail
          go_quiet (fail)
          go_wp2_with fail
          go_roundw
          case rel =>
            refine ⟨k + 1, by omega, by go_num, Lib.hid ⟨HX.out.1.drewN _, fun j hj p' q' hp' hq' => ?_⟩⟩
            by_cases hjk : j = k
            · subst hjk
              have e1 := HP.out.symm.trans hp'
              have e2 := HQ.out.symm.trans hq'
              simp at e1 e2
              rw [← e1, ← e2, HPQ.out]
            · exact HX.out.2 j (by omega) p' q' hp' hq'
          case measure => simp [intOf]; omega
        · have hne := neq_pt p q false (by simp [hpq])
          have HPQ := Lib.hid hpq
          clear hpq
          go_wp2_with fail
          go_quiet (fail)
          go_wp2_with fail
          go_ret
          refine ⟨ret_bool ?_, HX.out.1.drewN _⟩
          rw [Bool.eq_iff_iff, HB.out]
          refine ⟨(fun h => by cases h), fun h => absurd ?_ HPQ.out⟩
          have e1 := HP.out
          rw [h, HQ.out] at e1
          simpa using e1.symm
      · have hkl : Hid (k = n) := Lib.hid (by omega)
        go_wp2_with fail
        go_ret
        refine ⟨ret_bool ?_, HX.out.1⟩
        rw [Bool.eq_iff_iff, HB.out]
        refine ⟨fun _ => pts_ext (by rw [HN.out]; exact HN1.out.symm) (fun j p q hp hq => HX.out.2 j ?_ p q hp hq), fun _ => rfl⟩
        rw [hkl.out, HN1.out]
        exact (List.getElem?_eq_some_iff.1 hp).1
  · have HL := Lib.hid hlen
    have hb : ((l.length : Int) != (m.length : Int)) = true := by simp; omega
    clear hlen
    go_enter Tryd.func26, Tryd.ntmps26
    go_wp2_with fail
    go_ret
    refine ⟨ret_bool ?_, Ext.refl _⟩
    rw [Bool.eq_iff_iff, HB.out]
    exact ⟨(fun h => by cases h), fun h => absurd (by rw [h]) HL.out⟩

set_option maxRecDepth 100000 in
theorem slices_EqualPts (v1 v2 : Value) (l m : List Pt) (w : World) (hl : Sz w 5 v1 l.length (l.flatMap Pt.vals)) (hm : Sz w 5 v2 m.length (m.flatMap Pt.vals)) (b : Bool) (hb : b = true ↔ l = m) :
    Calls Tryd.prog 33 #[v1, v2] w fun e w' => e = .returned (.bool b) ∧ Ext w w' := by
  obtain ⟨a, c, rfl, hlc, hcm, _, hcell⟩ := hl.at_ Pt.vals_length (by omega)
  obtain ⟨a', c', rfl, hlc', hcm', _, hcell'⟩ := hm.at_ Pt.vals_length (by omega)
  unfold maxLen at hcm hcm'
  have HC := Lib.hid hcell
  have HC' := Lib.hid hcell'
  have HB := Lib.hid hb
  clear hcell hcell' hl hm hb
  by_cases hlen : l.length = m.length
  · obtain ⟨n, hn⟩ : ∃ n, n = l.length := ⟨_, rfl⟩
    have HN : Hid (m.length = n) := Lib.hid (by omega)
    rw [HN.out]
    rw [← hn]
    have HN1 := Lib.hid hn
    have hlc2 : n ≤ c := by omega
    have hlc2' : n ≤ c' := by omega
    clear hlen hn hlc hlc'
    have gp := guard_pt
    go_enter Tryd.func33, Tryd.ntmps33
    go_wp2_with fail
    go_loopw [13] (fun i wr => ∃ k : Nat, k ≤ n ∧ i = .int .i64 k ∧ Hid (Ext w wr ∧ ∀ j, j < k → ∀ p q, l[j]? = some p → m[j]? = some q → p = q)) (fun i _ => n - (intOf i).toNat)
    case atStart => exact ⟨0, by omega, rfl, Lib.hid ⟨Ext.refl _, fun j hj => by omega⟩⟩
    case round =>
      obtain ⟨k, hk, rfl, HX⟩ := hrel
      by_cases hlt : k < n
      · obtain ⟨p, hp⟩ : ∃ p, l[k]? = some p := ⟨_, List.getElem?_eq_getElem (by rw [← HN1.out]; exact hlt)⟩
        obtain ⟨q, hq⟩ : ∃ q, m[k]? = some q := ⟨_, List.getElem?_eq_getElem (by rw [HN.out]; exact hlt)⟩
        obtain ⟨b1, off, rfl, _, hcx⟩ := HC.out k p hp
        obtain ⟨b2, off', rfl, _, hcx'⟩ := HC'.out k q hq
        have c0 : wr.cell? ⟨b1, off + k * 5, none⟩ = some (.int .i64 p.kind) := HX.out.1.cell' (hcx 0 _ (by omega) rfl)
        have c1 : wr.cell? ⟨b1, off + k * 5 + 1, none⟩ = some (.int .i64 p.addr) := HX.out.1.cell' (hcx 1 _ (by omega) rfl)
        have c2 : wr.cell? ⟨b1, off + k * 5 + 2, none⟩ = some (.int .i64 p.at_) := HX.out.1.cell' (hcx 2 _ (by omega) rfl)
        have c3 : wr.cell? ⟨b1, off + k * 5 + 3, none⟩ = some (.int .i64 p.band) := HX.out.1.cell' (hcx 3 _ (by omega) rfl)
        have c4 : wr.cell? ⟨b1, off + k * 5 + 4, none⟩ = some (.int .i64 p.safe) := HX.out.1.cell' (hcx 4 _ (by omega) rfl)
        have d0 : wr.cell? ⟨b2, off' + k * 5, none⟩ = some (.int .i64 q.kind) := HX.out.1.cell' (hcx' 0 _ (by omega) rfl)
        have d1 : wr.cell? ⟨b2, off' + k * 5 + 1, none⟩ = some (.int .i64 q.addr) := HX.out.1.cell' (hcx' 1 _ (by omega) rfl)
        have d2 : wr.cell? ⟨b2, off' + k * 5 + 2, none⟩ = some (.int .i64 q.at_) := HX.out.1.cell' (hcx' 2 _ (by omega) rfl)
        have d3 : wr.cell? ⟨b2, off' + k * 5 + 3, none⟩ = some (.int .i64 q.band) := HX.out.1.cell' (hcx' 3 _ (by omega) rfl)
        have d4 : wr.cell? ⟨b2, off' + k * 5 + 4, none⟩ = some (.int .i64 q.safe) := HX.out.1.cell' (hcx' 4 _ (by omega) rfl)
        have hk0 : (0 : Int) ≤ (k : Int) := by omega
        have hkn : (k : Int) < (n : Int) := by omega
        clear hcx hcx'
        have HP := Lib.hid hp
        have HQ := Lib.hid hq
        clear hp hq
        by_cases hpq : p = q
        · have hne := neq_pt p q true (by simp [hpq])
          have HPQ := Lib.hid hpq
          clear hpq
          go_wp2_with fail
          go_quiet (fail)
          go_wp2_with fail
          go_roundw
          case rel =>
            refine ⟨k + 1, by omega, by go_num, Lib.hid ⟨HX.out.1.drewN _, fun j hj p' q' hp' hq' => ?_⟩⟩
            by_cases hjk : j = k
            · subst hjk
              have e1 := HP.out.symm.trans hp'
              have e2 := HQ.out.symm.trans hq'
              simp at e1 e2
              rw [← e1, ← e2, HPQ.out]
            · exact HX.out.2 j (by omega) p' q' hp' hq'
          case measure => simp [intOf]; omega
        · have hne := neq_pt p q false (by simp [hpq])
          have HPQ := Lib.hid hpq
          clear hpq
          go_wp2_with fail
          go_quiet (fail)
          go_wp2_with fail
          go_ret
          refine ⟨ret_bool ?_, HX.out.1.drewN _⟩
          rw [Bool.eq_iff_iff, HB.out]
          refine ⟨(fun h => by cases h), fun h => absurd ?_ HPQ.out⟩
          have e1 := HP.out
          rw [h, HQ.out] at e1
          simpa using e1.symm
      · have hkl : Hid (k = n) := Lib.hid (by omega)
        go_wp2_with fail
        go_ret
        refine ⟨ret_bool ?_, HX.out.1⟩
        rw [Bool.eq_iff_iff, HB.out]
        refine ⟨fun _ => pts_ext (by rw [HN.out]; exact HN1.out.symm) (fun j p q hp hq => HX.out.2 j ?_ p q hp hq), fun _ => rfl⟩
        rw [hkl.out, HN1.out]
        exact (List.getElem?_eq_some_iff.1 hp).1
  · have HL := Lib.hid hlen
    have hb : ((l.length : Int) != (m.length : Int)) = true := by simp; omega
    clear hlen
    go_enter Tryd.func33, Tryd.ntmps33
    go_wp2_with fail
    go_ret
    refine ⟨ret_bool ?_, Ext.refl _⟩
    rw [Bool.eq_iff_iff, HB.out]
    exact ⟨(fun h => by cases h), fun h => absurd (by rw [h]) HL.out⟩

set_option maxRecDepth 100000 in
theorem config_nums (c : Cfg) (v : Value) (w : World) (hk : c.key < 65536) :
    Calls Tryd.prog 32 #[c.val v] w fun e w' => e = .returned (.agg #[.int .i64 c.gap, .int .i64 c.wait, .int .i64 c.tries, .int .i64 c.strikes, .int .i64 c.queue, .int .i64 c.idle, .int .i64 (c.key : Int)]) ∧ Ext w w' := by
  obtain ⟨n0, n1, n2, gap, wait, tries, strikes, queue, idle, key, pts⟩ := c
  unfold Cfg.val Cfg.cells
  dsimp only at *
  go_enter Tryd.func32, Tryd.ntmps32
  go_wp2_with fail
  go_returns
  exact ⟨rfl, ((Ext.refl _).alloc _).alloc _⟩

theorem cfg_eq (c d : Cfg) : c = d ↔ (c.u0 = d.u0 ∧ c.u1 = d.u1 ∧ c.u2 = d.u2) ∧ (c.gap = d.gap ∧ c.wait = d.wait ∧ c.tries = d.tries ∧ c.strikes = d.strikes ∧ c.queue = d.queue ∧ c.idle = d.idle ∧ (c.key : Int) = d.key) ∧ c.pts = d.pts := by
  cases c
  cases d
  simp only [Cfg.mk.injEq, Int.natCast_inj, and_assoc]
set_option maxRecDepth 100000 in
set_option maxHeartbeats 1000000 in
theorem config_Same (c d : Cfg) (v v' : Value) (w : World) (hv : Sz w 5 v c.pts.length (c.pts.flatMap Pt.vals)) (hv' : Sz w 5 v' d.pts.length (d.pts.flatMap Pt.vals)) (hk : c.key < 65536) (hk' : d.key < 65536) (b : Bool) (hb : b = true ↔ c = d) :
    Calls Tryd.prog 15 #[c.val v, d.val v'] w fun e w' => e = .returned (.bool b) ∧ Ext w w' := by
  obtain ⟨bp, hbp⟩ : ∃ bp : Bool, bp = true ↔ c.pts = d.pts := by
    by_cases h : c.pts = d.pts
    · exact ⟨true, by simp [h]⟩
    · exact ⟨false, by simp [h]⟩
  have HE := Lib.hid (fun (W : World) (h : Ext w W) => slices_EqualPts v v' c.pts d.pts W (hv.ext h) (hv'.ext h) bp hbp)
  have HBp := Lib.hid hbp
  clear hbp
  have HN := Lib.hid (fun w => config_nums c v w hk)
  have HN' := Lib.hid (fun w => config_nums d v' w hk')
  rw [cfg_eq] at hb
  have HB := Lib.hid hb
  have HB0 : Hid (∀ W W' : World, Ext (W.alloc (.cells (c.cells v) 26)) W' → W'.heap[W.heap.size]? = some (.cells (c.cells v) 26 (0, 0))) := Lib.hid fun W W' h => h.heap (heap_alloc_new _ _)
  have HB1 : Hid (∀ W W' : World, Ext (W.alloc (.cells (d.cells v') 26)) W' → W'.heap[W.heap.size]? = some (.cells (d.cells v') 26 (0, 0))) := Lib.hid fun W W' h => h.heap (heap_alloc_new _ _)
  clear hv hv' hk hk' hb
  obtain ⟨n0, n1, n2, gap, wait, tries, strikes, queue, idle, key, pts⟩ := c
  obtain ⟨n0', n1', n2', gap', wait', tries', strikes', queue', idle', key', pts'⟩ := d
  unfold Cfg.val at *
  unfold Cfg.cells at *
  dsimp only at *
  have gu := guard_units
  have gn := guard_nums
  by_cases hu : n0 = n0' ∧ n1 = n1' ∧ n2 = n2'
  · have eu := eq_units n0 n1 n2 n0' n1' n2' true (by simp [hu])
    have HU := Lib.hid hu
    clear hu
    by_cases hn : gap = gap' ∧ wait = wait' ∧ tries = tries' ∧ strikes = strikes' ∧ queue = queue' ∧ idle = idle' ∧ (key : Int) = key'
    · have en := eq_nums gap wait tries strikes queue idle key gap' wait' tries' strikes' queue' idle' key' true (by simp [hn])
      have HNe := Lib.hid hn
      clear hn
      go_enter Tryd.func15, Tryd.ntmps15
      go_wp2_with fail
      refine wp_region_gen 27 (relM [(.eq (Value.pointer (some ⟨w.heap.size, 0, none⟩)), none), (.eq (Value.agg #[.int .u8 (n0 : Int), .int .u8 (n1 : Int), .int .u8 (n2 : Int)]), none), (.eq (Value.pointer (some ⟨(w.heap.size + 1), 0, none⟩)), none), (.eq (Value.agg #[.int .u8 (n0' : Int), .int .u8 (n1' : Int), .int .u8 (n2' : Int)]), none), (.eq (.bool true), none), (.eq (.bool true), none), (.eq (.func (.func 32) #[] #[]), none), (.eq (Value.agg #[.int .u8 (n0 : Int), .int .u8 (n1 : Int), .int .u8 (n2 : Int), .int .i64 gap, .int .i64 wait, .int .i64 tries, .int .i64 strikes, .int .i64 queue, .int .i64 idle, .int .u16 (key : Int), v]), none), (.eq (Value.agg #[.int .i64 gap, .int .i64 wait, .int .i64 tries, .int .i64 strikes, .int .i64 queue, .int .i64 idle, .int .i64 (key : Int)]), none), (.eq (.func (.func 32) #[] #[]), none), (.eq (Value.agg #[.int .u8 (n0' : Int), .int .u8 (n1' : Int), .int .u8 (n2' : Int), .int .i64 gap', .int .i64 wait', .int .i64 tries', .int .i64 strikes', .int .i64 queue', .int .i64 idle', .int .u16 (key' : Int), v']), none), (.eq (Value.agg #[.int .i64 gap', .int .i64 wait', .int .i64 tries', .int .i64 strikes', .int .i64 queue', .int .i64 idle', .int .i64 (key' : Int)]), none), (.eq (.bool true), none), (.eq (.bool true), none), (.eq (.bool true), none), (.eq (Value.pointer (some ⟨w.heap.size, 10, none⟩)), none), (.eq (v), none), (.eq (Value.pointer (some ⟨(w.heap.size + 1), 10, none⟩)), none), (.eq (v'), none), (.eq (.bool bp), none), (.eq (.bool bp), none), (.eq (.bool bp), none)]) (SBs w [(w.heap.size, #[.int .u8 (n0 : Int), .int .u8 (n1 : Int), .int .u8 (n2 : Int), .int .i64 gap, .int .i64 wait, .int .i64 tries, .int .i64 strikes, .int .i64 queue, .int .i64 idle, .int .u16 (key : Int), v], 26), ((w.heap.size + 1), #[.int .u8 (n0' : Int), .int .u8 (n1' : Int), .int .u8 (n2' : Int), .int .i64 gap', .int .i64 wait', .int .i64 tries', .int .i64 strikes', .int .i64 queue', .int .i64 idle', .int .u16 (key' : Int), v'], 26)] 5 (.slice none 0 0) [] 100) (by kernel_rfl) (by kernel_rfl) (by kernel_rfl) rfl (SBs.start (((Ext.refl _).alloc _).alloc _) (box_cons (Ext.heap ((Ext.refl _).alloc _) (heap_alloc_new _ _)) (box_cons (new_at (by simp) _ _) box_nil)) (World.ownsRow_nil _ _ _ _)) (LivesG.cons ?_ (LivesG.cons ?_ (LivesG.cons ?_ (LivesG.cons ?_ (LivesG.cons ?_ (LivesG.cons ?_ (LivesG.cons ?_ (LivesG.cons ?_ (LivesG.cons ?_ (LivesG.cons ?_ (LivesG.cons ?_ (LivesG.cons ?_ (LivesG.cons ?_ (LivesG.cons ?_ (LivesG.cons ?_ (LivesG.cons ?_ (LivesG.cons ?_ (LivesG.cons ?_ (LivesG.cons ?_ (LivesG.cons ?_ (LivesG.cons ?_ (LivesG.cons ?_ (LivesG.nil _))))))))))))))))))))))) ?_
      · intro L b W hL hdep hcl hf hu hS hd K hK
        refine step_now rfl ?_
        have f2 : b.tmps[2]?.getD undef = Value.pointer (some ⟨w.heap.size, 0, none⟩) := (hf 2 (by kernel_rfl)).trans rfl
        have HS0 := Lib.hid hS
        have HCL := Lib.hid hcl
        have HDP := Lib.hid hdep
        clear hdep
        clear hf hu hd hS hcl
        go_simp
        exact hK _ _ (HS0.out.ext (Ext.refl _) _) (relM.now rfl rfl) (fun j v h1 h2 h => h.ext (Ext.refl _) _)
      · intro L b W hL hdep hcl hf hu hS hd K hK
        refine step_now rfl ?_
        have d6 : b.tmps[6]?.getD undef = Value.pointer (some ⟨w.heap.size, 0, none⟩) := (hd ⟨0, .data⟩ (by simp) rfl _ _ rfl rfl).get (c := none) rfl (fun _ h => by cases h)
        have HS0 := Lib.hid hS
        have HCL := Lib.hid hcl
        have HDP := Lib.hid hdep
        clear hdep
        clear hf hu hd hS hcl
        have kc0 : W.cell? ⟨w.heap.size, 0, none⟩ = some (.int .u8 (n0 : Int)) := blk_cell HS0.out.box0 0
        have kc1 : W.cell? ⟨w.heap.size, 1, none⟩ = some (.int .u8 (n1 : Int)) := blk_cell HS0.out.box0 1
        have kc2 : W.cell? ⟨w.heap.size, 2, none⟩ = some (.int .u8 (n2 : Int)) := blk_cell HS0.out.box0 2
        go_simp
        exact hK _ _ (HS0.out.ext (Ext.refl _) _) (relM.now rfl rfl) (fun j v h1 h2 h => h.ext (Ext.refl _) _)
      · intro L b W hL hdep hcl hf hu hS hd K hK
        refine step_now rfl ?_
        have f3 : b.tmps[3]?.getD undef = Value.pointer (some ⟨(w.heap.size + 1), 0, none⟩) := (hf 3 (by kernel_rfl)).trans rfl
        have HS0 := Lib.hid hS
        have HCL := Lib.hid hcl
        have HDP := Lib.hid hdep
        clear hdep
        clear hf hu hd hS hcl
        go_simp
        exact hK _ _ (HS0.out.ext (Ext.refl _) _) (relM.now rfl rfl) (fun j v h1 h2 h => h.ext (Ext.refl _) _)
      · intro L b W hL hdep hcl hf hu hS hd K hK
        refine step_now rfl ?_
        have d8 : b.tmps[8]?.getD undef = Value.pointer (some ⟨(w.heap.size + 1), 0, none⟩) := (hd ⟨2, .data⟩ (by simp) rfl _ _ rfl rfl).get (c := none) rfl (fun _ h => by cases h)
        have HS0 := Lib.hid hS
        have HCL := Lib.hid hcl
        have HDP := Lib.hid hdep
        clear hdep
        clear hf hu hd hS hcl
        have kc0 : W.cell? ⟨(w.heap.size + 1), 0, none⟩ = some (.int .u8 (n0' : Int)) := blk_cell HS0.out.box1 0
        have kc1 : W.cell? ⟨(w.heap.size + 1), 1, none⟩ = some (.int .u8 (n1' : Int)) := blk_cell HS0.out.box1 1
        have kc2 : W.cell? ⟨(w.heap.size + 1), 2, none⟩ = some (.int .u8 (n2' : Int)) := blk_cell HS0.out.box1 2
        go_simp
        exact hK _ _ (HS0.out.ext (Ext.refl _) _) (relM.now rfl rfl) (fun j v h1 h2 h => h.ext (Ext.refl _) _)
      · intro L b W hL hdep hcl hf hu hS hd K hK
        refine step_now rfl ?_
        have d7 : b.tmps[7]?.getD undef = Value.agg #[.int .u8 (n0 : Int), .int .u8 (n1 : Int), .int .u8 (n2 : Int)] := (hd ⟨1, .data⟩ (by simp) rfl _ _ rfl rfl).get (c := none) rfl (fun _ h => by cases h)
        have d9 : b.tmps[9]?.getD undef = Value.agg #[.int .u8 (n0' : Int), .int .u8 (n1' : Int), .int .u8 (n2' : Int)] := (hd ⟨3, .data⟩ (by simp) rfl _ _ rfl rfl).get (c := none) rfl (fun _ h => by cases h)
        have HS0 := Lib.hid hS
        have HCL := Lib.hid hcl
        have HDP := Lib.hid hdep
        clear hdep
        clear hf hu hd hS hcl
        go_simp
        exact hK _ _ (HS0.out.ext (Ext.refl _) _) (relM.now rfl rfl) (fun j v h1 h2 h => h.ext (Ext.refl _) _)
      · intro L b W hL hdep hcl hf hu hS hd K hK
        refine step_now rfl ?_
        have d10 : b.tmps[10]?.getD undef = .bool true := (hd ⟨4, .data⟩ (by simp) rfl _ _ rfl rfl).get (c := none) rfl (fun _ h => by cases h)
        have HS0 := Lib.hid hS
        have HCL := Lib.hid hcl
        have HDP := Lib.hid hdep
        clear hdep
        clear hf hu hd hS hcl
        go_simp
        exact hK _ _ (HS0.out.ext (Ext.refl _) _) (relM.now rfl rfl) (fun j v h1 h2 h => h.ext (Ext.refl _) _)
      · intro L b W hL hdep hcl hf hu hS hd K hK
        have dG : slotv b 11 = .bool true := (hd ⟨5, .guard⟩ (by simp) rfl _ _ rfl rfl).get (c := none) rfl (fun _ h => by cases h)
        refine step_on rfl rfl rfl dG ?_
        clear dG
        have f5 : b.tmps[5]?.getD undef = Value.func (.func 32) #[] #[] := (hf 5 (by kernel_rfl)).trans rfl
        have HS0 := Lib.hid hS
        have HCL := Lib.hid hcl
        have HDP := Lib.hid hdep
        clear hdep
        clear hf hu hd hS hcl
        go_simp
        exact hK _ _ (HS0.out.ext (Ext.refl _) _) (relM.now rfl rfl) (fun j v h1 h2 h => h.ext (Ext.refl _) _)
      · intro L b W hL hdep hcl hf hu hS hd K hK
        have dG : slotv b 11 = .bool true := (hd ⟨5, .guard⟩ (by simp) rfl _ _ rfl rfl).get (c := none) rfl (fun _ h => by cases h)
        refine step_on rfl rfl rfl dG ?_
        clear dG
        have f2 : b.tmps[2]?.getD undef = Value.pointer (some ⟨w.heap.size, 0, none⟩) := (hf 2 (by kernel_rfl)).trans rfl
        have HS0 := Lib.hid hS
        have HCL := Lib.hid hcl
        have HDP := Lib.hid hdep
        clear hdep
        clear hf hu hd hS hcl
        have kc0 : W.cell? ⟨w.heap.size, 0, none⟩ = some (.int .u8 (n0 : Int)) := blk_cell HS0.out.box0 0
        have kc1 : W.cell? ⟨w.heap.size, 1, none⟩ = some (.int .u8 (n1 : Int)) := blk_cell HS0.out.box0 1
        have kc2 : W.cell? ⟨w.heap.size, 2, none⟩ = some (.int .u8 (n2 : Int)) := blk_cell HS0.out.box0 2
        have kc3 : W.cell? ⟨w.heap.size, 3, none⟩ = some (.int .i64 gap) := blk_cell HS0.out.box0 3
        have kc4 : W.cell? ⟨w.heap.size, 4, none⟩ = some (.int .i64 wait) := blk_cell HS0.out.box0 4
        have kc5 : W.cell? ⟨w.heap.size, 5, none⟩ = some (.int .i64 tries) := blk_cell HS0.out.box0 5
        have kc6 : W.cell? ⟨w.heap.size, 6, none⟩ = some (.int .i64 strikes) := blk_cell HS0.out.box0 6
        have kc7 : W.cell? ⟨w.heap.size, 7, none⟩ = some (.int .i64 queue) := blk_cell HS0.out.box0 7
        have kc8 : W.cell? ⟨w.heap.size, 8, none⟩ = some (.int .i64 idle) := blk_cell HS0.out.box0 8
        have kc9 : W.cell? ⟨w.heap.size, 9, none⟩ = some (.int .u16 (key : Int)) := blk_cell HS0.out.box0 9
        have kc10 : W.cell? ⟨w.heap.size, 10, none⟩ = some (v) := blk_cell HS0.out.box0 10
        go_simp
        exact hK _ _ (HS0.out.ext (Ext.refl _) _) (relM.now rfl rfl) (fun j v h1 h2 h => h.ext (Ext.refl _) _)
      · intro L b W hL hdep hcl hf hu hS hd K hK
        have dG : slotv b 11 = .bool true := (hd ⟨5, .guard⟩ (by simp) rfl _ _ rfl rfl).get (c := none) rfl (fun _ h => by cases h)
        refine step_on rfl rfl rfl dG ?_
        clear dG
        have d12 : b.tmps[12]?.getD undef = .func (.func 32) #[] #[] := (hd ⟨6, .data⟩ (by simp) rfl _ _ rfl rfl).get (c := none) rfl (fun _ h => by cases h)
        have d13 : b.tmps[13]?.getD undef = Value.agg #[.int .u8 (n0 : Int), .int .u8 (n1 : Int), .int .u8 (n2 : Int), .int .i64 gap, .int .i64 wait, .int .i64 tries, .int .i64 strikes, .int .i64 queue, .int .i64 idle, .int .u16 (key : Int), v] := (hd ⟨7, .data⟩ (by simp) rfl _ _ rfl rfl).get (c := none) rfl (fun _ h => by cases h)
        have HS0 := Lib.hid hS
        have HCL := Lib.hid hcl
        have HDP := Lib.hid hdep
        clear hdep
        clear hf hu hd hS hcl
        go_simp
        refine (HN.out _).mono ?_
        rintro e W' ⟨rfl, hx'⟩
        exact hK _ _ (HS0.out.ext hx' _) (relM.now rfl rfl) (fun j v h1 h2 h => h.ext hx' _)
      · intro L b W hL hdep hcl hf hu hS hd K hK
        have dG : slotv b 11 = .bool true := (hd ⟨5, .guard⟩ (by simp) rfl _ _ rfl rfl).get (c := none) rfl (fun _ h => by cases h)
        refine step_on rfl rfl rfl dG ?_
        clear dG
        have f5 : b.tmps[5]?.getD undef = Value.func (.func 32) #[] #[] := (hf 5 (by kernel_rfl)).trans rfl
        have HS0 := Lib.hid hS
        have HCL := Lib.hid hcl
        have HDP := Lib.hid hdep
        clear hdep
        clear hf hu hd hS hcl
        go_simp
        exact hK _ _ (HS0.out.ext (Ext.refl _) _) (relM.now rfl rfl) (fun j v h1 h2 h => h.ext (Ext.refl _) _)
      · intro L b W hL hdep hcl hf hu hS hd K hK
        have dG : slotv b 11 = .bool true := (hd ⟨5, .guard⟩ (by simp) rfl _ _ rfl rfl).get (c := none) rfl (fun _ h => by cases h)
        refine step_on rfl rfl rfl dG ?_
        clear dG
        have f3 : b.tmps[3]?.getD undef = Value.pointer (some ⟨(w.heap.size + 1), 0, none⟩) := (hf 3 (by kernel_rfl)).trans rfl
        have HS0 := Lib.hid hS
        have HCL := Lib.hid hcl
        have HDP := Lib.hid hdep
        clear hdep
        clear hf hu hd hS hcl
        have kc0 : W.cell? ⟨(w.heap.size + 1), 0, none⟩ = some (.int .u8 (n0' : Int)) := blk_cell HS0.out.box1 0
        have kc1 : W.cell? ⟨(w.heap.size + 1), 1, none⟩ = some (.int .u8 (n1' : Int)) := blk_cell HS0.out.box1 1
        have kc2 : W.cell? ⟨(w.heap.size + 1), 2, none⟩ = some (.int .u8 (n2' : Int)) := blk_cell HS0.out.box1 2
        have kc3 : W.cell? ⟨(w.heap.size + 1), 3, none⟩ = some (.int .i64 gap') := blk_cell HS0.out.box1 3
        have kc4 : W.cell? ⟨(w.heap.size + 1), 4, none⟩ = some (.int .i64 wait') := blk_cell HS0.out.box1 4
        have kc5 : W.cell? ⟨(w.heap.size + 1), 5, none⟩ = some (.int .i64 tries') := blk_cell HS0.out.box1 5
        have kc6 : W.cell? ⟨(w.heap.size + 1), 6, none⟩ = some (.int .i64 strikes') := blk_cell HS0.out.box1 6
        have kc7 : W.cell? ⟨(w.heap.size + 1), 7, none⟩ = some (.int .i64 queue') := blk_cell HS0.out.box1 7
        have kc8 : W.cell? ⟨(w.heap.size + 1), 8, none⟩ = some (.int .i64 idle') := blk_cell HS0.out.box1 8
        have kc9 : W.cell? ⟨(w.heap.size + 1), 9, none⟩ = some (.int .u16 (key' : Int)) := blk_cell HS0.out.box1 9
        have kc10 : W.cell? ⟨(w.heap.size + 1), 10, none⟩ = some (v') := blk_cell HS0.out.box1 10
        go_simp
        exact hK _ _ (HS0.out.ext (Ext.refl _) _) (relM.now rfl rfl) (fun j v h1 h2 h => h.ext (Ext.refl _) _)
      · intro L b W hL hdep hcl hf hu hS hd K hK
        have dG : slotv b 11 = .bool true := (hd ⟨5, .guard⟩ (by simp) rfl _ _ rfl rfl).get (c := none) rfl (fun _ h => by cases h)
        refine step_on rfl rfl rfl dG ?_
        clear dG
        have d15 : b.tmps[15]?.getD undef = .func (.func 32) #[] #[] := (hd ⟨9, .data⟩ (by simp) rfl _ _ rfl rfl).get (c := none) rfl (fun _ h => by cases h)
        have d16 : b.tmps[16]?.getD undef = Value.agg #[.int .u8 (n0' : Int), .int .u8 (n1' : Int), .int .u8 (n2' : Int), .int .i64 gap', .int .i64 wait', .int .i64 tries', .int .i64 strikes', .int .i64 queue', .int .i64 idle', .int .u16 (key' : Int), v'] := (hd ⟨10, .data⟩ (by simp) rfl _ _ rfl rfl).get (c := none) rfl (fun _ h => by cases h)
        have HS0 := Lib.hid hS
        have HCL := Lib.hid hcl
        have HDP := Lib.hid hdep
        clear hdep
        clear hf hu hd hS hcl
        go_simp
        refine (HN'.out _).mono ?_
        rintro e W' ⟨rfl, hx'⟩
        exact hK _ _ (HS0.out.ext hx' _) (relM.now rfl rfl) (fun j v h1 h2 h => h.ext hx' _)
      · intro L b W hL hdep hcl hf hu hS hd K hK
        have dG : slotv b 11 = .bool true := (hd ⟨5, .guard⟩ (by simp) rfl _ _ rfl rfl).get (c := none) rfl (fun _ h => by cases h)
        refine step_on rfl rfl rfl dG ?_
        clear dG
        have d14 : b.tmps[14]?.getD undef = Value.agg #[.int .i64 gap, .int .i64 wait, .int .i64 tries, .int .i64 strikes, .int .i64 queue, .int .i64 idle, .int .i64 (key : Int)] := (hd ⟨8, .data⟩ (by simp) rfl _ _ rfl rfl).get (c := none) rfl (fun _ h => by cases h)
        have d17 : b.tmps[17]?.getD undef = Value.agg #[.int .i64 gap', .int .i64 wait', .int .i64 tries', .int .i64 strikes', .int .i64 queue', .int .i64 idle', .int .i64 (key' : Int)] := (hd ⟨11, .data⟩ (by simp) rfl _ _ rfl rfl).get (c := none) rfl (fun _ h => by cases h)
        have HS0 := Lib.hid hS
        have HCL := Lib.hid hcl
        have HDP := Lib.hid hdep
        clear hdep
        clear hf hu hd hS hcl
        go_simp
        exact hK _ _ (HS0.out.ext (Ext.refl _) _) (relM.now rfl rfl) (fun j v h1 h2 h => h.ext (Ext.refl _) _)
      · intro L b W hL hdep hcl hf hu hS hd K hK
        refine step_now rfl ?_
        have d11 : b.tmps[11]?.getD undef = .bool true := (hd ⟨5, .data⟩ (by simp) rfl _ _ rfl rfl).get (c := none) rfl (fun _ h => by cases h)
        have d18 : b.tmps[18]?.getD undef = .bool true := (hd ⟨12, .data⟩ (by simp) rfl _ _ rfl rfl).get (c := none) rfl (fun _ h => by cases h)
        have HS0 := Lib.hid hS
        have HCL := Lib.hid hcl
        have HDP := Lib.hid hdep
        clear hdep
        clear hf hu hd hS hcl
        go_simp
        exact hK _ _ (HS0.out.ext (Ext.refl _) _) (relM.now rfl rfl) (fun j v h1 h2 h => h.ext (Ext.refl _) _)
      · intro L b W hL hdep hcl hf hu hS hd K hK
        refine step_now rfl ?_
        have d19 : b.tmps[19]?.getD undef = .bool true := (hd ⟨13, .data⟩ (by simp) rfl _ _ rfl rfl).get (c := none) rfl (fun _ h => by cases h)
        have HS0 := Lib.hid hS
        have HCL := Lib.hid hcl
        have HDP := Lib.hid hdep
        clear hdep
        clear hf hu hd hS hcl
        go_simp
        exact hK _ _ (HS0.out.ext (Ext.refl _) _) (relM.now rfl rfl) (fun j v h1 h2 h => h.ext (Ext.refl _) _)
      · intro L b W hL hdep hcl hf hu hS hd K hK
        have dG : slotv b 20 = .bool true := (hd ⟨14, .guard⟩ (by simp) rfl _ _ rfl rfl).get (c := none) rfl (fun _ h => by cases h)
        refine step_on rfl rfl rfl dG ?_
        clear dG
        have f2 : b.tmps[2]?.getD undef = Value.pointer (some ⟨w.heap.size, 0, none⟩) := (hf 2 (by kernel_rfl)).trans rfl
        have HS0 := Lib.hid hS
        have HCL := Lib.hid hcl
        have HDP := Lib.hid hdep
        clear hdep
        clear hf hu hd hS hcl
        go_simp
        exact hK _ _ (HS0.out.ext (Ext.refl _) _) (relM.now rfl rfl) (fun j v h1 h2 h => h.ext (Ext.refl _) _)
      · intro L b W hL hdep hcl hf hu hS hd K hK
        have dG : slotv b 20 = .bool true := (hd ⟨14, .guard⟩ (by simp) rfl _ _ rfl rfl).get (c := none) rfl (fun _ h => by cases h)
        refine step_on rfl rfl rfl dG ?_
        clear dG
        have d21 : b.tmps[21]?.getD undef = Value.pointer (some ⟨w.heap.size, 10, none⟩) := (hd ⟨15, .data⟩ (by simp) rfl _ _ rfl rfl).get (c := none) rfl (fun _ h => by cases h)
        have HS0 := Lib.hid hS
        have HCL := Lib.hid hcl
        have HDP := Lib.hid hdep
        clear hdep
        clear hf hu hd hS hcl
        have kc10 : W.cell? ⟨w.heap.size, 10, none⟩ = some (v) := blk_cell HS0.out.box0 10
        go_simp
        exact hK _ _ (HS0.out.ext (Ext.refl _) _) (relM.now rfl rfl) (fun j v h1 h2 h => h.ext (Ext.refl _) _)
      · intro L b W hL hdep hcl hf hu hS hd K hK
        have dG : slotv b 20 = .bool true := (hd ⟨14, .guard⟩ (by simp) rfl _ _ rfl rfl).get (c := none) rfl (fun _ h => by cases h)
        refine step_on rfl rfl rfl dG ?_
        clear dG
        have f3 : b.tmps[3]?.getD undef = Value.pointer (some ⟨(w.heap.size + 1), 0, none⟩) := (hf 3 (by kernel_rfl)).trans rfl
        have HS0 := Lib.hid hS
        have HCL := Lib.hid hcl
        have HDP := Lib.hid hdep
        clear hdep
        clear hf hu hd hS hcl
        go_simp
        exact hK _ _ (HS0.out.ext (Ext.refl _) _) (relM.now rfl rfl) (fun j v h1 h2 h => h.ext (Ext.refl _) _)
      · intro L b W hL hdep hcl hf hu hS hd K hK
        have dG : slotv b 20 = .bool true := (hd ⟨14, .guard⟩ (by simp) rfl _ _ rfl rfl).get (c := none) rfl (fun _ h => by cases h)
        refine step_on rfl rfl rfl dG ?_
        clear dG
        have d23 : b.tmps[23]?.getD undef = Value.pointer (some ⟨(w.heap.size + 1), 10, none⟩) := (hd ⟨17, .data⟩ (by simp) rfl _ _ rfl rfl).get (c := none) rfl (fun _ h => by cases h)
        have HS0 := Lib.hid hS
        have HCL := Lib.hid hcl
        have HDP := Lib.hid hdep
        clear hdep
        clear hf hu hd hS hcl
        have kc10 : W.cell? ⟨(w.heap.size + 1), 10, none⟩ = some (v') := blk_cell HS0.out.box1 10
        go_simp
        exact hK _ _ (HS0.out.ext (Ext.refl _) _) (relM.now rfl rfl) (fun j v h1 h2 h => h.ext (Ext.refl _) _)
      · intro L b W hL hdep hcl hf hu hS hd K hK
        have dG : slotv b 20 = .bool true := (hd ⟨14, .guard⟩ (by simp) rfl _ _ rfl rfl).get (c := none) rfl (fun _ h => by cases h)
        refine step_on rfl rfl rfl dG ?_
        clear dG
        have d22 : b.tmps[22]?.getD undef = v := (hd ⟨16, .data⟩ (by simp) rfl _ _ rfl rfl).get (c := none) rfl (fun _ h => by cases h)
        have d24 : b.tmps[24]?.getD undef = v' := (hd ⟨18, .data⟩ (by simp) rfl _ _ rfl rfl).get (c := none) rfl (fun _ h => by cases h)
        have HS0 := Lib.hid hS
        have HCL := Lib.hid hcl
        have HDP := Lib.hid hdep
        clear hdep
        clear hf hu hd hS hcl
        go_simp
        refine (HE.out _ HS0.out.1).mono ?_
        rintro e W' ⟨rfl, hx'⟩
        exact hK _ _ (HS0.out.ext hx' _) (relM.now rfl rfl) (fun j v h1 h2 h => h.ext hx' _)
      · intro L b W hL hdep hcl hf hu hS hd K hK
        refine step_now rfl ?_
        have d20 : b.tmps[20]?.getD undef = .bool true := (hd ⟨14, .data⟩ (by simp) rfl _ _ rfl rfl).get (c := none) rfl (fun _ h => by cases h)
        have d25 : b.tmps[25]?.getD undef = .bool bp := (hd ⟨19, .data⟩ (by simp) rfl _ _ rfl rfl).get (c := none) rfl (fun _ h => by cases h)
        have HS0 := Lib.hid hS
        have HCL := Lib.hid hcl
        have HDP := Lib.hid hdep
        clear hdep
        clear hf hu hd hS hcl
        go_simp
        exact hK _ _ (HS0.out.ext (Ext.refl _) _) (relM.now rfl rfl) (fun j v h1 h2 h => h.ext (Ext.refl _) _)
      · intro L b W hL hdep hcl hf hu hS hd K hK
        refine step_now rfl ?_
        have d26 : b.tmps[26]?.getD undef = .bool bp := (hd ⟨20, .data⟩ (by simp) rfl _ _ rfl rfl).get (c := none) rfl (fun _ h => by cases h)
        have HS0 := Lib.hid hS
        have HCL := Lib.hid hcl
        have HDP := Lib.hid hdep
        clear hdep
        clear hf hu hd hS hcl
        go_simp
        exact hK _ _ (HS0.out.ext (Ext.refl _) _) (relM.now rfl rfl) (fun j v h1 h2 h => h.ext (Ext.refl _) _)
      · intro L f7 w7 hL h3 h4 h5
        have e : ((List.range 27).map f7).toArray = #[f7 0, f7 1, f7 2, f7 3, f7 4, f7 5, f7 6, f7 7, f7 8, f7 9, f7 10, f7 11, f7 12, f7 13, f7 14, f7 15, f7 16, f7 17, f7 18, f7 19, f7 20, f7 21, f7 22, f7 23, f7 24, f7 25, f7 26] := rfl
        have g2 : f7 2 = Value.pointer (some ⟨w.heap.size, 0, none⟩) := h3 2 (by kernel_rfl)
        have g4 : f7 4 = Value.bool bp := (h5 21 _ _ rfl rfl).get (c := none) rfl (fun _ h => by cases h)
        simp only [g2, g4] at e
        rw [e]
        clear e g2 g4
        have HX7 := Lib.hid h4.1
        clear h4 h3 h5 hL
        go_wp2_with fail
        go_ret
        refine ⟨ret_bool ?_, HX7.out⟩
        rw [Bool.eq_iff_iff, HB.out, HBp.out]
        exact ⟨fun h => ⟨HU.out, HNe.out, h⟩, fun h => h.2.2⟩
    · have en := eq_nums gap wait tries strikes queue idle key gap' wait' tries' strikes' queue' idle' key' false (by simp [hn])
      have HNe := Lib.hid hn
      clear hn
      go_enter Tryd.func15, Tryd.ntmps15
      go_wp2_with fail
      refine wp_region_gen 27 (relM [(.eq (Value.pointer (some ⟨w.heap.size, 0, none⟩)), none), (.eq (Value.agg #[.int .u8 (n0 : Int), .int .u8 (n1 : Int), .int .u8 (n2 : Int)]), none), (.eq (Value.pointer (some ⟨(w.heap.size + 1), 0, none⟩)), none), (.eq (Value.agg #[.int .u8 (n0' : Int), .int .u8 (n1' : Int), .int .u8 (n2' : Int)]), none), (.eq (.bool true), none), (.eq (.bool true), none), (.eq (.func (.func 32) #[] #[]), none), (.eq (Value.agg #[.int .u8 (n0 : Int), .int .u8 (n1 : Int), .int .u8 (n2 : Int), .int .i64 gap, .int .i64 wait, .int .i64 tries, .int .i64 strikes, .int .i64 queue, .int .i64 idle, .int .u16 (key : Int), v]), none), (.eq (Value.agg #[.int .i64 gap, .int .i64 wait, .int .i64 tries, .int .i64 strikes, .int .i64 queue, .int .i64 idle, .int .i64 (key : Int)]), none), (.eq (.func (.func 32) #[] #[]), none), (.eq (Value.agg #[.int .u8 (n0' : Int), .int .u8 (n1' : Int), .int .u8 (n2' : Int), .int .i64 gap', .int .i64 wait', .int .i64 tries', .int .i64 strikes', .int .i64 queue', .int .i64 idle', .int .u16 (key' : Int), v']), none), (.eq (Value.agg #[.int .i64 gap', .int .i64 wait', .int .i64 tries', .int .i64 strikes', .int .i64 queue', .int .i64 idle', .int .i64 (key' : Int)]), none), (.eq (.bool false), none), (.eq (.bool false), none), (.eq (.bool false), none), (.any, none), (.any, none), (.any, none), (.any, none), (.any, none), (.eq (.bool false), none), (.eq (.bool false), none)]) (SBs w [(w.heap.size, #[.int .u8 (n0 : Int), .int .u8 (n1 : Int), .int .u8 (n2 : Int), .int .i64 gap, .int .i64 wait, .int .i64 tries, .int .i64 strikes, .int .i64 queue, .int .i64 idle, .int .u16 (key : Int), v], 26), ((w.heap.size + 1), #[.int .u8 (n0' : Int), .int .u8 (n1' : Int), .int .u8 (n2' : Int), .int .i64 gap', .int .i64 wait', .int .i64 tries', .int .i64 strikes', .int .i64 queue', .int .i64 idle', .int .u16 (key' : Int), v'], 26)] 5 (.slice none 0 0) [] 100) (by kernel_rfl) (by kernel_rfl) (by kernel_rfl) rfl (SBs.start (((Ext.refl _).alloc _).alloc _) (box_cons (Ext.heap ((Ext.refl _).alloc _) (heap_alloc_new _ _)) (box_cons (new_at (by simp) _ _) box_nil)) (World.ownsRow_nil _ _ _ _)) (LivesG.cons ?_ (LivesG.cons ?_ (LivesG.cons ?_ (LivesG.cons ?_ (LivesG.cons ?_ (LivesG.cons ?_ (LivesG.cons ?_ (LivesG.cons ?_ (LivesG.cons ?_ (LivesG.cons ?_ (LivesG.cons ?_ (LivesG.cons ?_ (LivesG.cons ?_ (LivesG.cons ?_ (LivesG.cons ?_ (LivesG.cons ?_ (LivesG.cons ?_ (LivesG.cons ?_ (LivesG.cons ?_ (LivesG.cons ?_ (LivesG.cons ?_ (LivesG.cons ?_ (LivesG.nil _))))))))))))))))))))))) ?_
      · intro L b W hL hdep hcl hf hu hS hd K hK
        refine step_now rfl ?_
        have f2 : b.tmps[2]?.getD undef = Value.pointer (some ⟨w.heap.size, 0, none⟩) := (hf 2 (by kernel_rfl)).trans rfl
        have HS0 := Lib.hid hS
        have HCL := Lib.hid hcl
        have HDP := Lib.hid hdep
        clear hdep
        clear hf hu hd hS hcl
        go_simp
        exact hK _ _ (HS0.out.ext (Ext.refl _) _) (relM.now rfl rfl) (fun j v h1 h2 h => h.ext (Ext.refl _) _)
      · intro L b W hL hdep hcl hf hu hS hd K hK
        refine step_now rfl ?_
        have d6 : b.tmps[6]?.getD undef = Value.pointer (some ⟨w.heap.size, 0, none⟩) := (hd ⟨0, .data⟩ (by simp) rfl _ _ rfl rfl).get (c := none) rfl (fun _ h => by cases h)
        have HS0 := Lib.hid hS
        have HCL := Lib.hid hcl
        have HDP := Lib.hid hdep
        clear hdep
        clear hf hu hd hS hcl
        have kc0 : W.cell? ⟨w.heap.size, 0, none⟩ = some (.int .u8 (n0 : Int)) := blk_cell HS0.out.box0 0
        have kc1 : W.cell? ⟨w.heap.size, 1, none⟩ = some (.int .u8 (n1 : Int)) := blk_cell HS0.out.box0 1
        have kc2 : W.cell? ⟨w.heap.size, 2, none⟩ = some (.int .u8 (n2 : Int)) := blk_cell HS0.out.box0 2
        go_simp
        exact hK _ _ (HS0.out.ext (Ext.refl _) _) (relM.now rfl rfl) (fun j v h1 h2 h => h.ext (Ext.refl _) _)
      · intro L b W hL hdep hcl hf hu hS hd K hK
        refine step_now rfl ?_
        have f3 : b.tmps[3]?.getD undef = Value.pointer (some ⟨(w.heap.size + 1), 0, none⟩) := (hf 3 (by kernel_rfl)).trans rfl
        have HS0 := Lib.hid hS
        have HCL := Lib.hid hcl
        have HDP := Lib.hid hdep
        clear hdep
        clear hf hu hd hS hcl
        go_simp
        exact hK _ _ (HS0.out.ext (Ext.refl _) _) (relM.now rfl rfl) (fun j v h1 h2 h => h.ext (Ext.refl _) _)
      · intro L b W hL hdep hcl hf hu hS hd K hK
        refine step_now rfl ?_
        have d8 : b.tmps[8]?.getD undef = Value.pointer (some ⟨(w.heap.size + 1), 0, none⟩) := (hd ⟨2, .data⟩ (by simp) rfl _ _ rfl rfl).get (c := none) rfl (fun _ h => by cases h)
        have HS0 := Lib.hid hS
        have HCL := Lib.hid hcl
        have HDP := Lib.hid hdep
        clear hdep
        clear hf hu hd hS hcl
        have kc0 : W.cell? ⟨(w.heap.size + 1), 0, none⟩ = some (.int .u8 (n0' : Int)) := blk_cell HS0.out.box1 0
        have kc1 : W.cell? ⟨(w.heap.size + 1), 1, none⟩ = some (.int .u8 (n1' : Int)) := blk_cell HS0.out.box1 1
        have kc2 : W.cell? ⟨(w.heap.size + 1), 2, none⟩ = some (.int .u8 (n2' : Int)) := blk_cell HS0.out.box1 2
        go_simp
        exact hK _ _ (HS0.out.ext (Ext.refl _) _) (relM.now rfl rfl) (fun j v h1 h2 h => h.ext (Ext.refl _) _)
      · intro L b W hL hdep hcl hf hu hS hd K hK
        refine step_now rfl ?_
        have d7 : b.tmps[7]?.getD undef = Value.agg #[.int .u8 (n0 : Int), .int .u8 (n1 : Int), .int .u8 (n2 : Int)] := (hd ⟨1, .data⟩ (by simp) rfl _ _ rfl rfl).get (c := none) rfl (fun _ h => by cases h)
        have d9 : b.tmps[9]?.getD undef = Value.agg #[.int .u8 (n0' : Int), .int .u8 (n1' : Int), .int .u8 (n2' : Int)] := (hd ⟨3, .data⟩ (by simp) rfl _ _ rfl rfl).get (c := none) rfl (fun _ h => by cases h)
        have HS0 := Lib.hid hS
        have HCL := Lib.hid hcl
        have HDP := Lib.hid hdep
        clear hdep
        clear hf hu hd hS hcl
        go_simp
        exact hK _ _ (HS0.out.ext (Ext.refl _) _) (relM.now rfl rfl) (fun j v h1 h2 h => h.ext (Ext.refl _) _)
      · intro L b W hL hdep hcl hf hu hS hd K hK
        refine step_now rfl ?_
        have d10 : b.tmps[10]?.getD undef = .bool true := (hd ⟨4, .data⟩ (by simp) rfl _ _ rfl rfl).get (c := none) rfl (fun _ h => by cases h)
        have HS0 := Lib.hid hS
        have HCL := Lib.hid hcl
        have HDP := Lib.hid hdep
        clear hdep
        clear hf hu hd hS hcl
        go_simp
        exact hK _ _ (HS0.out.ext (Ext.refl _) _) (relM.now rfl rfl) (fun j v h1 h2 h => h.ext (Ext.refl _) _)
      · intro L b W hL hdep hcl hf hu hS hd K hK
        have dG : slotv b 11 = .bool true := (hd ⟨5, .guard⟩ (by simp) rfl _ _ rfl rfl).get (c := none) rfl (fun _ h => by cases h)
        refine step_on rfl rfl rfl dG ?_
        clear dG
        have f5 : b.tmps[5]?.getD undef = Value.func (.func 32) #[] #[] := (hf 5 (by kernel_rfl)).trans rfl
        have HS0 := Lib.hid hS
        have HCL := Lib.hid hcl
        have HDP := Lib.hid hdep
        clear hdep
        clear hf hu hd hS hcl
        go_simp
        exact hK _ _ (HS0.out.ext (Ext.refl _) _) (relM.now rfl rfl) (fun j v h1 h2 h => h.ext (Ext.refl _) _)
      · intro L b W hL hdep hcl hf hu hS hd K hK
        have dG : slotv b 11 = .bool true := (hd ⟨5, .guard⟩ (by simp) rfl _ _ rfl rfl).get (c := none) rfl (fun _ h => by cases h)
        refine step_on rfl rfl rfl dG ?_
        clear dG
        have f2 : b.tmps[2]?.getD undef = Value.pointer (some ⟨w.heap.size, 0, none⟩) := (hf 2 (by kernel_rfl)).trans rfl
        have HS0 := Lib.hid hS
        have HCL := Lib.hid hcl
        have HDP := Lib.hid hdep
        clear hdep
        clear hf hu hd hS hcl
        have kc0 : W.cell? ⟨w.heap.size, 0, none⟩ = some (.int .u8 (n0 : Int)) := blk_cell HS0.out.box0 0
        have kc1 : W.cell? ⟨w.heap.size, 1, none⟩ = some (.int .u8 (n1 : Int)) := blk_cell HS0.out.box0 1
        have kc2 : W.cell? ⟨w.heap.size, 2, none⟩ = some (.int .u8 (n2 : Int)) := blk_cell HS0.out.box0 2
        have kc3 : W.cell? ⟨w.heap.size, 3, none⟩ = some (.int .i64 gap) := blk_cell HS0.out.box0 3
        have kc4 : W.cell? ⟨w.heap.size, 4, none⟩ = some (.int .i64 wait) := blk_cell HS0.out.box0 4
        have kc5 : W.cell? ⟨w.heap.size, 5, none⟩ = some (.int .i64 tries) := blk_cell HS0.out.box0 5
        have kc6 : W.cell? ⟨w.heap.size, 6, none⟩ = some (.int .i64 strikes) := blk_cell HS0.out.box0 6
        have kc7 : W.cell? ⟨w.heap.size, 7, none⟩ = some (.int .i64 queue) := blk_cell HS0.out.box0 7
        have kc8 : W.cell? ⟨w.heap.size, 8, none⟩ = some (.int .i64 idle) := blk_cell HS0.out.box0 8
        have kc9 : W.cell? ⟨w.heap.size, 9, none⟩ = some (.int .u16 (key : Int)) := blk_cell HS0.out.box0 9
        have kc10 : W.cell? ⟨w.heap.size, 10, none⟩ = some (v) := blk_cell HS0.out.box0 10
        go_simp
        exact hK _ _ (HS0.out.ext (Ext.refl _) _) (relM.now rfl rfl) (fun j v h1 h2 h => h.ext (Ext.refl _) _)
      · intro L b W hL hdep hcl hf hu hS hd K hK
        have dG : slotv b 11 = .bool true := (hd ⟨5, .guard⟩ (by simp) rfl _ _ rfl rfl).get (c := none) rfl (fun _ h => by cases h)
        refine step_on rfl rfl rfl dG ?_
        clear dG
        have d12 : b.tmps[12]?.getD undef = .func (.func 32) #[] #[] := (hd ⟨6, .data⟩ (by simp) rfl _ _ rfl rfl).get (c := none) rfl (fun _ h => by cases h)
        have d13 : b.tmps[13]?.getD undef = Value.agg #[.int .u8 (n0 : Int), .int .u8 (n1 : Int), .int .u8 (n2 : Int), .int .i64 gap, .int .i64 wait, .int .i64 tries, .int .i64 strikes, .int .i64 queue, .int .i64 idle, .int .u16 (key : Int), v] := (hd ⟨7, .data⟩ (by simp) rfl _ _ rfl rfl).get (c := none) rfl (fun _ h => by cases h)
        have HS0 := Lib.hid hS
        have HCL := Lib.hid hcl
        have HDP := Lib.hid hdep
        clear hdep
        clear hf hu hd hS hcl
        go_simp
        refine (HN.out _).mono ?_
        rintro e W' ⟨rfl, hx'⟩
        exact hK _ _ (HS0.out.ext hx' _) (relM.now rfl rfl) (fun j v h1 h2 h => h.ext hx' _)
      · intro L b W hL hdep hcl hf hu hS hd K hK
        have dG : slotv b 11 = .bool true := (hd ⟨5, .guard⟩ (by simp) rfl _ _ rfl rfl).get (c := none) rfl (fun _ h => by cases h)
        refine step_on rfl rfl rfl dG ?_
        clear dG
        have f5 : b.tmps[5]?.getD undef = Value.func (.func 32) #[] #[] := (hf 5 (by kernel_rfl)).trans rfl
        have HS0 := Lib.hid hS
        have HCL := Lib.hid hcl
        have HDP := Lib.hid hdep
        clear hdep
        clear hf hu hd hS hcl
        go_simp
        exact hK _ _ (HS0.out.ext (Ext.refl _) _) (relM.now rfl rfl) (fun j v h1 h2 h => h.ext (Ext.refl _) _)
      · intro L b W hL hdep hcl hf hu hS hd K hK
        have dG : slotv b 11 = .bool true := (hd ⟨5, .guard⟩ (by simp) rfl _ _ rfl rfl).get (c := none) rfl (fun _ h => by cases h)
        refine step_on rfl rfl rfl dG ?_
        clear dG
        have f3 : b.tmps[3]?.getD undef = Value.pointer (some ⟨(w.heap.size + 1), 0, none⟩) := (hf 3 (by kernel_rfl)).trans rfl
        have HS0 := Lib.hid hS
        have HCL := Lib.hid hcl
        have HDP := Lib.hid hdep
        clear hdep
        clear hf hu hd hS hcl
        have kc0 : W.cell? ⟨(w.heap.size + 1), 0, none⟩ = some (.int .u8 (n0' : Int)) := blk_cell HS0.out.box1 0
        have kc1 : W.cell? ⟨(w.heap.size + 1), 1, none⟩ = some (.int .u8 (n1' : Int)) := blk_cell HS0.out.box1 1
        have kc2 : W.cell? ⟨(w.heap.size + 1), 2, none⟩ = some (.int .u8 (n2' : Int)) := blk_cell HS0.out.box1 2
        have kc3 : W.cell? ⟨(w.heap.size + 1), 3, none⟩ = some (.int .i64 gap') := blk_cell HS0.out.box1 3
        have kc4 : W.cell? ⟨(w.heap.size + 1), 4, none⟩ = some (.int .i64 wait') := blk_cell HS0.out.box1 4
        have kc5 : W.cell? ⟨(w.heap.size + 1), 5, none⟩ = some (.int .i64 tries') := blk_cell HS0.out.box1 5
        have kc6 : W.cell? ⟨(w.heap.size + 1), 6, none⟩ = some (.int .i64 strikes') := blk_cell HS0.out.box1 6
        have kc7 : W.cell? ⟨(w.heap.size + 1), 7, none⟩ = some (.int .i64 queue') := blk_cell HS0.out.box1 7
        have kc8 : W.cell? ⟨(w.heap.size + 1), 8, none⟩ = some (.int .i64 idle') := blk_cell HS0.out.box1 8
        have kc9 : W.cell? ⟨(w.heap.size + 1), 9, none⟩ = some (.int .u16 (key' : Int)) := blk_cell HS0.out.box1 9
        have kc10 : W.cell? ⟨(w.heap.size + 1), 10, none⟩ = some (v') := blk_cell HS0.out.box1 10
        go_simp
        exact hK _ _ (HS0.out.ext (Ext.refl _) _) (relM.now rfl rfl) (fun j v h1 h2 h => h.ext (Ext.refl _) _)
      · intro L b W hL hdep hcl hf hu hS hd K hK
        have dG : slotv b 11 = .bool true := (hd ⟨5, .guard⟩ (by simp) rfl _ _ rfl rfl).get (c := none) rfl (fun _ h => by cases h)
        refine step_on rfl rfl rfl dG ?_
        clear dG
        have d15 : b.tmps[15]?.getD undef = .func (.func 32) #[] #[] := (hd ⟨9, .data⟩ (by simp) rfl _ _ rfl rfl).get (c := none) rfl (fun _ h => by cases h)
        have d16 : b.tmps[16]?.getD undef = Value.agg #[.int .u8 (n0' : Int), .int .u8 (n1' : Int), .int .u8 (n2' : Int), .int .i64 gap', .int .i64 wait', .int .i64 tries', .int .i64 strikes', .int .i64 queue', .int .i64 idle', .int .u16 (key' : Int), v'] := (hd ⟨10, .data⟩ (by simp) rfl _ _ rfl rfl).get (c := none) rfl (fun _ h => by cases h)
        have HS0 := Lib.hid hS
        have HCL := Lib.hid hcl
        have HDP := Lib.hid hdep
        clear hdep
        clear hf hu hd hS hcl
        go_simp
        refine (HN'.out _).mono ?_
        rintro e W' ⟨rfl, hx'⟩
        exact hK _ _ (HS0.out.ext hx' _) (relM.now rfl rfl) (fun j v h1 h2 h => h.ext hx' _)
      · intro L b W hL hdep hcl hf hu hS hd K hK
        have dG : slotv b 11 = .bool true := (hd ⟨5, .guard⟩ (by simp) rfl _ _ rfl rfl).get (c := none) rfl (fun _ h => by cases h)
        refine step_on rfl rfl rfl dG ?_
        clear dG
        have d14 : b.tmps[14]?.getD undef = Value.agg #[.int .i64 gap, .int .i64 wait, .int .i64 tries, .int .i64 strikes, .int .i64 queue, .int .i64 idle, .int .i64 (key : Int)] := (hd ⟨8, .data⟩ (by simp) rfl _ _ rfl rfl).get (c := none) rfl (fun _ h => by cases h)
        have d17 : b.tmps[17]?.getD undef = Value.agg #[.int .i64 gap', .int .i64 wait', .int .i64 tries', .int .i64 strikes', .int .i64 queue', .int .i64 idle', .int .i64 (key' : Int)] := (hd ⟨11, .data⟩ (by simp) rfl _ _ rfl rfl).get (c := none) rfl (fun _ h => by cases h)
        have HS0 := Lib.hid hS
        have HCL := Lib.hid hcl
        have HDP := Lib.hid hdep
        clear hdep
        clear hf hu hd hS hcl
        go_simp
        exact hK _ _ (HS0.out.ext (Ext.refl _) _) (relM.now rfl rfl) (fun j v h1 h2 h => h.ext (Ext.refl _) _)
      · intro L b W hL hdep hcl hf hu hS hd K hK
        refine step_now rfl ?_
        have d11 : b.tmps[11]?.getD undef = .bool true := (hd ⟨5, .data⟩ (by simp) rfl _ _ rfl rfl).get (c := none) rfl (fun _ h => by cases h)
        have d18 : b.tmps[18]?.getD undef = .bool false := (hd ⟨12, .data⟩ (by simp) rfl _ _ rfl rfl).get (c := none) rfl (fun _ h => by cases h)
        have HS0 := Lib.hid hS
        have HCL := Lib.hid hcl
        have HDP := Lib.hid hdep
        clear hdep
        clear hf hu hd hS hcl
        go_simp
        exact hK _ _ (HS0.out.ext (Ext.refl _) _) (relM.now rfl rfl) (fun j v h1 h2 h => h.ext (Ext.refl _) _)
      · intro L b W hL hdep hcl hf hu hS hd K hK
        refine step_now rfl ?_
        have d19 : b.tmps[19]?.getD undef = .bool false := (hd ⟨13, .data⟩ (by simp) rfl _ _ rfl rfl).get (c := none) rfl (fun _ h => by cases h)
        have HS0 := Lib.hid hS
        have HCL := Lib.hid hcl
        have HDP := Lib.hid hdep
        clear hdep
        clear hf hu hd hS hcl
        go_simp
        exact hK _ _ (HS0.out.ext (Ext.refl _) _) (relM.now rfl rfl) (fun j v h1 h2 h => h.ext (Ext.refl _) _)
      · intro L b W hL hdep hcl hf hu hS hd K hK
        have dG : slotv b 20 = .bool false := (hd ⟨14, .guard⟩ (by simp) rfl _ _ rfl rfl).get (c := none) rfl (fun _ h => by cases h)
        have HS0 := Lib.hid hS
        clear hdep hf hu hd hS hcl
        refine step_off rfl rfl rfl dG (by decide) ?_
        exact hK _ _ (HS0.out.ext (Ext.refl _) _) (relM.now rfl trivial) (fun j v h1 h2 h => h.ext (Ext.refl _) _)
      · intro L b W hL hdep hcl hf hu hS hd K hK
        have dG : slotv b 20 = .bool false := (hd ⟨14, .guard⟩ (by simp) rfl _ _ rfl rfl).get (c := none) rfl (fun _ h => by cases h)
        have HS0 := Lib.hid hS
        clear hdep hf hu hd hS hcl
        refine step_off rfl rfl rfl dG (by decide) ?_
        exact hK _ _ (HS0.out.ext (Ext.refl _) _) (relM.now rfl trivial) (fun j v h1 h2 h => h.ext (Ext.refl _) _)
      · intro L b W hL hdep hcl hf hu hS hd K hK
        have dG : slotv b 20 = .bool false := (hd ⟨14, .guard⟩ (by simp) rfl _ _ rfl rfl).get (c := none) rfl (fun _ h => by cases h)
        have HS0 := Lib.hid hS
        clear hdep hf hu hd hS hcl
        refine step_off rfl rfl rfl dG (by decide) ?_
        exact hK _ _ (HS0.out.ext (Ext.refl _) _) (relM.now rfl trivial) (fun j v h1 h2 h => h.ext (Ext.refl _) _)
      · intro L b W hL hdep hcl hf hu hS hd K hK
        have dG : slotv b 20 = .bool false := (hd ⟨14, .guard⟩ (by simp) rfl _ _ rfl rfl).get (c := none) rfl (fun _ h => by cases h)
        have HS0 := Lib.hid hS
        clear hdep hf hu hd hS hcl
        refine step_off rfl rfl rfl dG (by decide) ?_
        exact hK _ _ (HS0.out.ext (Ext.refl _) _) (relM.now rfl trivial) (fun j v h1 h2 h => h.ext (Ext.refl _) _)
      · intro L b W hL hdep hcl hf hu hS hd K hK
        have dG : slotv b 20 = .bool false := (hd ⟨14, .guard⟩ (by simp) rfl _ _ rfl rfl).get (c := none) rfl (fun _ h => by cases h)
        have HS0 := Lib.hid hS
        clear hdep hf hu hd hS hcl
        refine step_off rfl rfl rfl dG (by decide) ?_
        exact hK _ _ (HS0.out.ext (Ext.refl _) _) (relM.now rfl trivial) (fun j v h1 h2 h => h.ext (Ext.refl _) _)
      · intro L b W hL hdep hcl hf hu hS hd K hK
        refine step_now rfl ?_
        have d20 : b.tmps[20]?.getD undef = .bool false := (hd ⟨14, .data⟩ (by simp) rfl _ _ rfl rfl).get (c := none) rfl (fun _ h => by cases h)
        have HS0 := Lib.hid hS
        have HCL := Lib.hid hcl
        have HDP := Lib.hid hdep
        clear hdep
        clear hf hu hd hS hcl
        go_simp
        exact hK _ _ (HS0.out.ext (Ext.refl _) _) (relM.now rfl rfl) (fun j v h1 h2 h => h.ext (Ext.refl _) _)
      · intro L b W hL hdep hcl hf hu hS hd K hK
        refine step_now rfl ?_
        have d26 : b.tmps[26]?.getD undef = .bool false := (hd ⟨20, .data⟩ (by simp) rfl _ _ rfl rfl).get (c := none) rfl (fun _ h => by cases h)
        have HS0 := Lib.hid hS
        have HCL := Lib.hid hcl
        have HDP := Lib.hid hdep
        clear hdep
        clear hf hu hd hS hcl
        go_simp
        exact hK _ _ (HS0.out.ext (Ext.refl _) _) (relM.now rfl rfl) (fun j v h1 h2 h => h.ext (Ext.refl _) _)
      · intro L f7 w7 hL h3 h4 h5
        have e : ((List.range 27).map f7).toArray = #[f7 0, f7 1, f7 2, f7 3, f7 4, f7 5, f7 6, f7 7, f7 8, f7 9, f7 10, f7 11, f7 12, f7 13, f7 14, f7 15, f7 16, f7 17, f7 18, f7 19, f7 20, f7 21, f7 22, f7 23, f7 24, f7 25, f7 26] := rfl
        have g2 : f7 2 = Value.pointer (some ⟨w.heap.size, 0, none⟩) := h3 2 (by kernel_rfl)
        have g4 : f7 4 = Value.bool false := (h5 21 _ _ rfl rfl).get (c := none) rfl (fun _ h => by cases h)
        simp only [g2, g4] at e
        rw [e]
        clear e g2 g4
        have HX7 := Lib.hid h4.1
        clear h4 h3 h5 hL
        go_wp2_with fail
        go_ret
        refine ⟨ret_bool ?_, HX7.out⟩
        rw [Bool.eq_iff_iff, HB.out]
        exact ⟨(fun h => by cases h), fun h => absurd h.2.1 HNe.out⟩
  · have eu := eq_units n0 n1 n2 n0' n1' n2' false (by simp [hu])
    have HU := Lib.hid hu
    clear hu
    go_enter Tryd.func15, Tryd.ntmps15
    go_wp2_with fail
    go_quiet (fail)
    go_wp2_with fail
    go_ret
    refine ⟨ret_bool ?_, (((Ext.refl _).alloc _).alloc _).drewN _⟩
    rw [Bool.eq_iff_iff, HB.out]
    exact ⟨(fun h => by cases h), fun h => absurd h.1 HU.out⟩

set_option maxRecDepth 100000 in
set_option maxHeartbeats 1000000 in
theorem ref09_Same (c d : Cfg) (v v' : Value) (w : World) (hv : Sz w 5 v c.pts.length (c.pts.flatMap Pt.vals)) (hv' : Sz w 5 v' d.pts.length (d.pts.flatMap Pt.vals)) (b : Bool) (hb : b = true ↔ c = d) :
    Calls Tryd.prog 12 #[c.val v, d.val v'] w fun e w' => e = .returned (.bool b) ∧ Ext w w' := by
  obtain ⟨bp, hbp⟩ : ∃ bp : Bool, bp = true ↔ c.pts = d.pts := by
    by_cases h : c.pts = d.pts
    · exact ⟨true, by simp [h]⟩
    · exact ⟨false, by simp [h]⟩
  have HE := Lib.hid (fun (W : World) (h : Ext w W) => ref_Points v v' c.pts d.pts W (hv.ext h) (hv'.ext h) bp hbp)
  have HBp := Lib.hid hbp
  rw [cfg_eq] at hb
  have HB := Lib.hid hb
  clear hv hv' hb hbp
  obtain ⟨n0, n1, n2, gap, wait, tries, strikes, queue, idle, key, pts⟩ := c
  obtain ⟨n0', n1', n2', gap', wait', tries', strikes', queue', idle', key', pts'⟩ := d
  unfold Cfg.val at *
  unfold Cfg.cells at *
  dsimp only at *
  have gu := guard_units
  by_cases hu : n0 = n0' ∧ n1 = n1' ∧ n2 = n2'
  · have eu := eq_units n0 n1 n2 n0' n1' n2' true (by simp [hu])
    obtain ⟨rfl, rfl, rfl⟩ := hu
    by_cases hn : gap = gap'
    · subst hn
      by_cases hn : wait = wait'
      · subst hn
        by_cases hn : tries = tries'
        · subst hn
          by_cases hn : strikes = strikes'
          · subst hn
            by_cases hn : queue = queue'
            · subst hn
              by_cases hn : idle = idle'
              · subst hn
                by_cases hn : key = key'
                · subst hn
                  go_enter Tryd.func12, Tryd.ntmps12
                  go_wp2_with fail
                  refine (HE.out _ (((Ext.refl _).alloc _).alloc _)).mono ?_
                  rintro e w1 ⟨rfl, hx⟩
                  go_wp2_with fail
                  go_ret
                  refine ⟨ret_bool ?_, (((Ext.refl _).alloc _).alloc _).trans hx⟩
                  rw [Bool.eq_iff_iff, HB.out, HBp.out]
                  simp
                · have hne : ((key : Int) == (key' : Int)) = false := by simp; omega
                  have HN := Lib.hid hn
                  clear hn
                  go_enter Tryd.func12, Tryd.ntmps12
                  go_wp2_with fail
                  go_ret
                  refine ⟨ret_bool ?_, ((Ext.refl _).alloc _).alloc _⟩
                  rw [Bool.eq_iff_iff, HB.out]
                  refine ⟨(fun h => by cases h), fun h => ?_⟩
                  obtain ⟨_, ⟨_, _, _, _, _, _, hk⟩, _⟩ := h
                  exact absurd (by omega) HN.out
              · have hne : ((idle : Int) == (idle' : Int)) = false := by simp [hn]
                have HN := Lib.hid hn
                clear hn
                go_enter Tryd.func12, Tryd.ntmps12
                go_wp2_with fail
                go_ret
                refine ⟨ret_bool ?_, ((Ext.refl _).alloc _).alloc _⟩
                rw [Bool.eq_iff_iff, HB.out]
                refine ⟨(fun h => by cases h), fun h => ?_⟩
                simp [HN.out] at h
            · have hne : ((queue : Int) == (queue' : Int)) = false := by simp [hn]
              have HN := Lib.hid hn
              clear hn
              go_enter Tryd.func12, Tryd.ntmps12
              go_wp2_with fail
              go_ret
              refine ⟨ret_bool ?_, ((Ext.refl _).alloc _).alloc _⟩
              rw [Bool.eq_iff_iff, HB.out]
              refine ⟨(fun h => by cases h), fun h => ?_⟩
              simp [HN.out] at h
          · have hne : ((strikes : Int) == (strikes' : Int)) = false := by simp [hn]
            have HN := Lib.hid hn
            clear hn
            go_enter Tryd.func12, Tryd.ntmps12
            go_wp2_with fail
            go_ret
            refine ⟨ret_bool ?_, ((Ext.refl _).alloc _).alloc _⟩
            rw [Bool.eq_iff_iff, HB.out]
            refine ⟨(fun h => by cases h), fun h => ?_⟩
            simp [HN.out] at h
        · have hne : ((tries : Int) == (tries' : Int)) = false := by simp [hn]
          have HN := Lib.hid hn
          clear hn
          go_enter Tryd.func12, Tryd.ntmps12
          go_wp2_with fail
          go_ret
          refine ⟨ret_bool ?_, ((Ext.refl _).alloc _).alloc _⟩
          rw [Bool.eq_iff_iff, HB.out]
          refine ⟨(fun h => by cases h), fun h => ?_⟩
          simp [HN.out] at h
      · have hne : ((wait : Int) == (wait' : Int)) = false := by simp [hn]
        have HN := Lib.hid hn
        clear hn
        go_enter Tryd.func12, Tryd.ntmps12
        go_wp2_with fail
        go_ret
        refine ⟨ret_bool ?_, ((Ext.refl _).alloc _).alloc _⟩
        rw [Bool.eq_iff_iff, HB.out]
        refine ⟨(fun h => by cases h), fun h => ?_⟩
        simp [HN.out] at h
    · have hne : ((gap : Int) == (gap' : Int)) = false := by simp [hn]
      have HN := Lib.hid hn
      clear hn
      go_enter Tryd.func12, Tryd.ntmps12
      go_wp2_with fail
      go_ret
      refine ⟨ret_bool ?_, ((Ext.refl _).alloc _).alloc _⟩
      rw [Bool.eq_iff_iff, HB.out]
      refine ⟨(fun h => by cases h), fun h => ?_⟩
      simp [HN.out] at h
  · have eu := eq_units n0 n1 n2 n0' n1' n2' false (by simp [hu])
    have HN := Lib.hid hu
    clear hu
    go_enter Tryd.func12, Tryd.ntmps12
    go_wp2_with fail
    go_ret
    refine ⟨ret_bool ?_, ((Ext.refl _).alloc _).alloc _⟩
    rw [Bool.eq_iff_iff, HB.out]
    refine ⟨(fun h => by cases h), fun h => ?_⟩
    exact absurd h.1 HN.out
end Go.Proofs.YtjooacmmgbpkfaaDoor
