/- Layer 7: maps by a length and a code. -/
import Derived.Test.YtclhmlgbhlmekaaTab
import Derived.Test.YtclhmlgbhlmekaaHa
import Derived.Laws.StructEq
import Derived.MapKept
namespace Go.Proofs.Ytclhmlgbhlmekaa
open Go.RowKit
set_option linter.unusedVariables false
set_option linter.unusedSimpArgs false
/-- a key: a length and a code -/
def keyV (a b : Nat) : Value := .agg #[.int .u8 a, .int .u64 b]
theorem fields_entry : Try.prog.underlying 121 = some (.struct (Try.prog.fieldsOf 121)) := by kernel_rfl
theorem fields_list : ((Try.prog.fieldsOf 121).toList.map fun f => (f.name == "_", f.type, f.offset)) = [(false, 5, 0), (false, 24, 1)] := by kernel_rfl
theorem stood_entry : Try.prog.stoodInHeld 121 = false := by kernel_rfl
theorem size_u8 : (Try.prog.info? 5).map (·.size) = some 1 := by kernel_rfl
theorem size_u64 : (Try.prog.info? 24).map (·.size) = some 1 := by kernel_rfl
theorem two_of_len {α : Type} {l : List α} (h : l.length = 2) : ∃ a b, l = [a, b] := by
  match l, h with
  | [a, b], _ => exact ⟨a, b, rfl⟩
theorem beq_nat (a b : Nat) : ((a : Int) == (b : Int)) = decide (a = b) := by
  rw [Bool.eq_iff_iff]; simp; omega
theorem fields_two : (Try.prog.fieldsOf 121).toList.length = 2 := by kernel_rfl
theorem equalIn_u8 (d : Nat) (a b : Nat) (w : World) : (Op.equalIn (d + 1) 5 (.int .u8 a) (.int .u8 b)).run Try.prog w = .ok (decide (a = b)) w := by
  simp [Op.equalIn, run_underlying Try.underlying5, Result.andThen]
  exact beq_nat a b
theorem equalIn_u64 (d : Nat) (a b : Nat) (w : World) : (Op.equalIn (d + 1) 24 (.int .u64 a) (.int .u64 b)).run Try.prog w = .ok (decide (a = b)) w := by
  simp [Op.equalIn, run_underlying Try.underlying24, Result.andThen]
  exact beq_nat a b
theorem equal_entry (n a b c d : Nat) (w : World) : (Op.equalIn (n + 2) 121 (keyV a b) (keyV c d)).run Try.prog w = .ok (decide (a = c ∧ b = d)) w := by
  unfold keyV
  rw [run_equalIn_struct _ _ _ _ _ fields_entry stood_entry]
  obtain ⟨f, g, e⟩ := two_of_len fields_two
  have e2 := fields_list
  rw [e] at e2
  simp at e2
  obtain ⟨⟨n1, t1, o1⟩, n2, t2, o2⟩ := e2
  rw [e]
  obtain ⟨i8, h8, z8⟩ := Option.map_eq_some_iff.1 size_u8
  obtain ⟨i64, h64, z64⟩ := Option.map_eq_some_iff.1 size_u64
  simp [Op.eqFields, n1, n2, t1, t2, o1, o2, part, isAgg, sizeOf, typeInfo, h8, h64, z8, z64, run_underlying Try.underlying5, run_underlying Try.underlying24, equalIn_u8, equalIn_u64, Result.andThen]
  by_cases h1 : a = c <;> by_cases h2 : b = d <;> simp [h1, h2]
theorem check_entry (n : Nat) (em : Bool) (a b : Nat) (w : World) : (Instr.checkKey em (n + 2) 121 (keyV a b)).run Try.prog w = .ok () w := by
  obtain ⟨f, g, e⟩ := two_of_len fields_two
  have e2 := fields_list
  rw [e] at e2
  simp at e2
  obtain ⟨⟨n1, t1, o1⟩, n2, t2, o2⟩ := e2
  obtain ⟨i8, h8, z8⟩ := Option.map_eq_some_iff.1 size_u8
  obtain ⟨i64, h64, z64⟩ := Option.map_eq_some_iff.1 size_u64
  have ea : Try.prog.fieldsOf 121 = #[f, g] := by rw [← Array.toList_inj, e]
  unfold keyV
  simp [Instr.checkKey, run_underlying fields_entry, ea, n1, n2, t1, t2, o1, o2, part, isAgg, sizeOf, typeInfo, h8, h64, z8, z64, run_underlying Try.underlying5, run_underlying Try.underlying24, Result.andThen]
/-- the entries: a length, a code, a byte -/
abbrev Ent := Nat × Nat × Nat
def EntsL (es : List MapEntry) (E : List Ent) : Prop := es.map (fun e => (e.key, e.val)) = E.map (fun x => (keyV x.1 x.2.1, Value.int .u8 x.2.2))
def findE (E : List Ent) (k c : Nat) : Option Ent := E.find? fun x => decide (k = x.1 ∧ c = x.2.1)
theorem find_asking (k c : Nat) (w : World) : ∀ (E : List Ent) (es : List MapEntry) (i : Nat), EntsL es E → ∃ r, (Instr.findAsking 121 (keyV k c) es i).run Try.prog w = .ok r w ∧ r.map (·.2) = (findE E k c).map fun x => Value.int .u8 x.2.2
  | [], es, i, h => by
    unfold EntsL at h
    rw [List.map_nil, List.map_eq_nil_iff] at h
    subst h
    exact ⟨none, rfl, rfl⟩
  | x :: E, [], i, h => by cases h
  | x :: E, e :: es, i, h => by
    unfold EntsL at h
    rw [List.map_cons, List.map_cons, List.cons.injEq] at h
    obtain ⟨h1, h2⟩ := h
    simp only [Prod.mk.injEq] at h1
    obtain ⟨h1, h3⟩ := h1
    obtain ⟨r, hr, hr2⟩ := find_asking k c w E es (i + 1) h2
    have he := equal_entry 9998 k c x.1 x.2.1 w
    have e9 : (Op.equal 121 (keyV k c) e.key).run Try.prog w = .ok (decide (k = x.1 ∧ c = x.2.1)) w := by rw [h1]; exact he
    by_cases hk : k = x.1 ∧ c = x.2.1
    · rw [decide_eq_true hk] at e9
      refine ⟨some (i, e.val), ?_, ?_⟩
      · simp [Instr.findAsking, e9, Result.andThen]
      · simp [findE, hk, h3]
    · rw [decide_eq_false hk] at e9
      refine ⟨r, ?_, ?_⟩
      · simp [Instr.findAsking, e9, hr, Result.andThen]
      · rw [hr2]; simp [findE, hk]
theorem find_key (k c : Nat) (w : World) (E : List Ent) (es : List MapEntry) (h : EntsL es E) : ∃ r, (Instr.findKey 121 (keyV k c) es).run Try.prog w = .ok r w ∧ r.map (·.2) = (findE E k c).map fun x => Value.int .u8 x.2.2 := by
  obtain ⟨r, hr, hr2⟩ := find_asking k c w E es 0 h
  cases es with
  | nil =>
    have e : E = [] := by
      cases E with
      | nil => rfl
      | cons x E => cases h
    subst e
    exact ⟨none, by simp [Instr.findKey, run_underlying fields_entry, Instr.findNow, Result.andThen], rfl⟩
  | cons e es =>
    refine ⟨r, ?_, hr2⟩
    simp [Instr.findKey, run_underlying fields_entry, Instr.findNow, Instr.sameNow, Result.andThen, hr]
/-- a map, known whole -/
def mapT (b : Nat) (E : List Ent) : Thing where
  holds w fp := (∃ es clock, w.heap[b]? = some (.map es clock) ∧ EntsL es.toList E) ∧ fp = fun k => k = b
  keep h m hd := ⟨by obtain ⟨es, clock, h1, h2⟩ := h.1; exact ⟨es, clock, m.heap (hd _ (by rw [h.2])) h1, h2⟩, h.2⟩
  lt h hk := by rw [h.2] at hk; cases hk; obtain ⟨es, clock, h1, h2⟩ := h.1; exact lt_of_block h1
theorem run_lookup {S : Nat → Prop} {W w : World} {b : Nat} {E : List Ent} {M : List Thing} (h : St S W w (mapT b E :: M)) (k c : Nat) :
    (Instr.lookup 107 (.map (some b)) (keyV k c) true).run Try.prog w = .ok (.tuple #[match findE E k c with | some x => .int .u8 x.2.2 | none => .int .u8 0, .bool (findE E k c).isSome]) w := by
  obtain ⟨fp, ⟨es, clock, h1, h2⟩, _⟩ := h.head
  obtain ⟨r, hr, hr2⟩ := find_key k c w E es.toList h2
  have hc := check_entry 9998 es.isEmpty k c w
  have hz : (zeroValue 5).run Try.prog w = .ok (.int .u8 0) w := by kernel_rfl
  have hu := Try.underlying107
  cases hf : findE E k c with
  | none =>
    rw [hf] at hr2
    have e : r = none := by simpa using hr2
    subst e
    simp [Instr.lookup, run_underlying hu, MapKept.run_getObj_map h1, hc, hr, hz, Result.andThen]
  | some x =>
    rw [hf] at hr2
    obtain ⟨⟨j, v⟩, e, hv⟩ := Option.map_eq_some_iff.1 hr2
    subst e
    simp only at hv
    subst hv
    simp [Instr.lookup, run_underlying hu, MapKept.run_getObj_map h1, hc, hr, Result.andThen]
def World.setObj' (w : World) (b : Nat) (o : Obj) : World := { w with heap := w.heap.setIfInBounds b o }
theorem Mut.setObj' {w : World} (b : Nat) (o : Obj) : Mut (oneB b) w (World.setObj' w b o) := ⟨rfl, rfl, rfl, by simp [World.setObj'], fun k _ hk => by
  show (w.heap.setIfInBounds b o)[k]? = _
  rw [Array.getElem?_setIfInBounds, if_neg (fun e => hk e.symm)]⟩
theorem run_update {S : Nat → Prop} {W w : World} {b : Nat} {E : List Ent} {M : List Thing} (h : St S W w (mapT b E :: M)) (k c x : Nat) (hn : findE E k c = none) :
    ∃ o, (Instr.mapUpdate 107 (.map (some b)) (keyV k c) (.int .u8 x)).run Try.prog w = .ok () (World.setObj' w b o) ∧ St S W (World.setObj' w b o) (mapT b (E ++ [(k, c, x)]) :: M) := by
  obtain ⟨fp, ⟨es, clock, h1, h2⟩, _⟩ := h.head
  obtain ⟨r, hr, hr2⟩ := find_key k c w E es.toList h2
  have hc := check_entry 9998 false k c w
  have hu := Try.underlying107
  rw [hn] at hr2
  have e : r = none := by simpa using hr2
  subst e
  refine ⟨.map (es.push { key := keyV k c, val := .int .u8 x, born := clock }) (clock + 1), ?_, ?_⟩
  · simp [Instr.mapUpdate, run_underlying hu, MapKept.run_getObj_map h1, hc, hr, MapKept.run_setObj_map _ h1, Result.andThen, World.setObj']
  · refine h.upd (fun fp h3 => ⟨fp, ⟨⟨_, _, (?_ : _ = some (Obj.map (es.push { key := keyV k c, val := .int .u8 x, born := clock }) (clock + 1))), ?_⟩, h3.2⟩, by rw [h3.2]; exact Mut.setObj' b _, fun k hk => .inl hk⟩)
    · show (w.heap.setIfInBounds b _)[b]? = _
      rw [Array.getElem?_setIfInBounds, if_pos rfl, if_pos (lt_of_block h1)]
    · unfold EntsL at *
      rw [Array.toList_push, List.map_append, h2, List.map_append]; rfl
theorem St.newMap {S : Nat → Prop} {W w : World} {M : List Thing} (h : St S W w M) : St S W (w.alloc (.map #[] 0)) (mapT w.heap.size [] :: M) :=
  h.add ((Mut.refl _ _).alloc _) ⟨_, ⟨⟨#[], 0, heap_alloc_new _ _, rfl⟩, rfl⟩, fun k hk => by cases hk; exact Nat.le_refl _⟩
end Go.Proofs.Ytclhmlgbhlmekaa
