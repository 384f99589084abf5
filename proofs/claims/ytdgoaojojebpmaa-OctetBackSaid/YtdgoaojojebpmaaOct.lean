/- Layer 1 among other things that a call holds. -/
import Derived.Test.YtdgoaojojebpmaaSt
import Derived.Test.YtdgoaojojebpmaaRd
import Derived.Test.YtdgoaojojebpmaaWr
namespace Go.Proofs.Ytdgoaojojebpmaa
open Go.RowKit
set_option linter.unusedVariables false

def rdT (b : Nat) (s : ByteArray) (a : Nat) : Thing where
  holds w fp := Rd w b s a ∧ fp = oneB b
  keep h m hd := ⟨h.1.keep m (hd _ (by rw [h.2])), h.2⟩
  lt h hk := by rw [h.2] at hk; cases hk; exact h.1.lt
def wrT (b : Nat) (l : List UInt8) : Thing where
  holds w fp := ∃ v, Wr w b v l ∧ fp = wrS b v
  keep h m hd := by
    obtain ⟨v, h1, h2⟩ := h
    exact ⟨v, h1.keep m (hd _ (by rw [h2]; exact .inl rfl)) (fun k hk => hd k (by rw [h2]; exact .inr hk)), h2⟩
  lt h hk := by
    obtain ⟨v, h1, h2⟩ := h
    rw [h2] at hk
    rcases hk with hk | hk
    · cases hk; exact h1.lt
    · exact h1.own.lt _ hk
section
variable {S : Nat → Prop} {W w : World} {L : List Thing} {b : Nat} {s : ByteArray} {a : Nat} {l : List UInt8}
theorem St.rd (h : St S W w (rdT b s a :: L)) : Rd w b s a := by obtain ⟨fp, h1, _⟩ := h.head; exact h1
theorem St.rdTo (h : St S W w (rdT b s a :: L)) {w' : World} {a' : Nat} (hr : Rd w' b s a') (hm : Mut (oneB b) w w') : St S W w' (rdT b s a' :: L) :=
  h.upd (fun fp h1 => ⟨fp, ⟨hr, h1.2⟩, by rw [h1.2]; exact hm, fun k hk => .inl hk⟩)
theorem St.newRd (h : St S W w L) (s : ByteArray) : St S W (w.alloc (.cells #[.string s, .int .i64 0] 58)) (rdT w.heap.size s 0 :: L) :=
  h.add ((Mut.refl _ _).alloc _) ⟨_, ⟨Rd.new w s, rfl⟩, fun k hk => by cases hk; exact Nat.le_refl _⟩
theorem St.newWr (h : St S W w L) : St S W (w.alloc (.cells #[.slice none 0 0] 48)) (wrT w.heap.size [] :: L) :=
  h.add ((Mut.refl _ _).alloc _) ⟨_, ⟨_, Wr.new w, rfl⟩, fun k hk => by rcases hk with hk | hk; cases hk; exact Nat.le_refl _; cases hk⟩
theorem St.wr (h : St S W w (wrT b l :: L)) : ∃ v, Wr w b v l := by obtain ⟨fp, v, h1, _⟩ := h.head; exact ⟨v, h1⟩
theorem St.wrTo {R : World → Prop} {P : Program} {f : FuncId} {args : Array Value} {l' : List UInt8} {v0 : Value} (h : St S W w (wrT b l :: L))
    (hc : ∀ v, Wr w b v l → Calls P f args w fun e w' => e = .returned v0 ∧ ∃ v', Wr w' b v' l' ∧ Moved w v v' ∧ Mut (wrS b v) w w') :
    Calls P f args w fun e w' => e = .returned v0 ∧ St S W w' (wrT b l' :: L) := by
  obtain ⟨hm, all, fp, rest, ⟨v, h1, h2⟩, hrest⟩ := h
  refine (hc v h1).mono ?_
  rintro e w' ⟨he, v', g1, g2, g3⟩
  refine ⟨he, ?_⟩
  have h0 : St S W w ((wrT b l) :: L) := ⟨hm, all, fp, rest, ⟨v, h1, h2⟩, hrest⟩
  -- the very footprint
  obtain ⟨k1, k2, k3, k4⟩ := hrest
  refine ⟨hm.trans' g3 (fun i hi hf => (k4 i (by rw [h2]; exact hf)).resolve_right (by omega)), fun k => wrS b v' k ∨ rest k, wrS b v', rest, ⟨v', g1, rfl⟩, k1.keep g3 (fun k hk hf => k2 k (by rw [h2]; exact hf) hk), ?_, fun k => Iff.rfl, ?_⟩
  · intro k hk hr
    rcases hk with hk | hk
    · exact k2 k (by rw [h2]; exact .inl hk) hr
    · rcases g2 with g | ⟨j, g, hj⟩
      · exact k2 k (by rw [h2]; exact .inr (by rw [← g]; exact hk)) hr
      · rw [g] at hk; cases hk; have := k1.lt k hr; omega
  · intro k hk
    rcases hk with hk | hk
    · exact k4 k (by rw [h2]; exact .inl hk)
    · rcases g2 with g | ⟨j, g, hj⟩
      · exact k4 k (by rw [h2]; exact .inr (by rw [← g]; exact hk))
      · rw [g] at hk; cases hk; have := hm.size; right; omega

theorem new_st (h : St S W w L) (s : ByteArray) :
    Calls Try.prog 9 #[.string s] w fun e w' => e = .returned (.pointer (some ⟨w.heap.size, 0, none⟩)) ∧ St S W w' (rdT w.heap.size s 0 :: L) :=
  (new_any s w).mono fun e w' ⟨he, hw⟩ => ⟨he, hw ▸ h.newRd s⟩
theorem take_st (h : St S W w (rdT b s a :: L)) (hs : s.size ≤ maxLen) (n : Nat) (hn : a + n ≤ s.size) :
    Calls Try.prog 12 #[.pointer (some ⟨b, 0, none⟩), .int .i64 n] w fun e w' => e = .returned (.tuple #[.string (s.extract a (a + n)), .int .i64 0]) ∧ St S W w' (rdT b s (a + n) :: L) :=
  (take_ok h.rd hs n hn).mono fun e w' ⟨he, hr, hm⟩ => ⟨he, h.rdTo hr hm⟩
theorem take_end_st (h : St S W w (rdT b s a :: L)) (ha : a ≤ s.size) (hs : s.size ≤ maxLen) (n : Int) (hn0 : 0 ≤ n) (hn : (s.size : Int) - a < n) :
    Calls Try.prog 12 #[.pointer (some ⟨b, 0, none⟩), .int .i64 n] w fun e w' => e = .returned (.tuple #[.string ⟨#[]⟩, .int .i64 2]) ∧ St S W w' (rdT b s a :: L) :=
  (take_end h.rd ha hs n hn0 hn).mono fun e w' ⟨he, x⟩ => ⟨he, h.ext x⟩
theorem take_neg_st (h : St S W w (rdT b s a :: L)) (n : Int) (hn : n < 0) :
    Calls Try.prog 12 #[.pointer (some ⟨b, 0, none⟩), .int .i64 n] w fun e w' => e = .returned (.tuple #[.string ⟨#[]⟩, .int .i64 1]) ∧ St S W w' (rdT b s a :: L) :=
  (take_neg n hn).mono fun e w' ⟨he, x⟩ => ⟨he, x ▸ h⟩
theorem byte_st (h : St S W w (rdT b s a :: L)) (hs : s.size ≤ maxLen) (ha : a < s.size) :
    Calls Try.prog 10 #[.pointer (some ⟨b, 0, none⟩)] w fun e w' => e = .returned (.tuple #[.int .u8 (s[a].toNat : Nat), .int .i64 0]) ∧ St S W w' (rdT b s (a + 1) :: L) :=
  (byte_ok h.rd hs ha).mono fun e w' ⟨he, hr, hm⟩ => ⟨he, h.rdTo hr hm⟩
theorem byte_end_st (h : St S W w (rdT b s a :: L)) (hs : s.size ≤ maxLen) (ha : a = s.size) :
    Calls Try.prog 10 #[.pointer (some ⟨b, 0, none⟩)] w fun e w' => e = .returned (.tuple #[.int .u8 0, .int .i64 2]) ∧ St S W w' (rdT b s a :: L) := by
  subst ha
  exact (byte_end h.rd hs).mono fun e w' ⟨he, x⟩ => ⟨he, h.ext x⟩
theorem four_st (h : St S W w (rdT b s a :: L)) (hs : s.size ≤ maxLen) (ha : a + 4 ≤ s.size) :
    Calls Try.prog 13 #[.pointer (some ⟨b, 0, none⟩)] w fun e w' => e = .returned (.tuple #[.int .u32 (four (s[a]) (s[a+1]) (s[a+2]) (s[a+3]) : Nat), .int .i64 0]) ∧ St S W w' (rdT b s (a + 4) :: L) :=
  (four_ok h.rd hs ha).mono fun e w' ⟨he, hr, hm⟩ => ⟨he, h.rdTo hr hm⟩
theorem four_end_st (h : St S W w (rdT b s a :: L)) (hs : s.size ≤ maxLen) (ha : a ≤ s.size) (ha2 : s.size < a + 4) :
    Calls Try.prog 13 #[.pointer (some ⟨b, 0, none⟩)] w fun e w' => e = .returned (.tuple #[.int .u32 0, .int .i64 2]) ∧ St S W w' (rdT b s a :: L) :=
  (four_end h.rd ha ha2 hs).mono fun e w' ⟨he, x⟩ => ⟨he, h.ext x⟩
theorem text_st (h : St S W w (wrT b l :: L)) (s : ByteArray) (hs : l.length + s.size ≤ 140737488355328) :
    Calls Try.prog 17 #[.pointer (some ⟨b, 0, none⟩), .string s] w fun e w' => e = .returned (.tuple #[]) ∧ St S W w' (wrT b (l ++ s.data.toList) :: L) :=
  h.wrTo (R := fun _ => True) (fun v hv => text_any hv s hs)
theorem put_st (h : St S W w (wrT b l :: L)) (m : List UInt8) (ad : Addr) (cp : Nat) (hm : ∀ i, i < m.length → w.cell? (ad.add i) = some (bv (m.getD i 0))) (hs : l.length + m.length ≤ 140737488355328) :
    Calls Try.prog 18 #[.pointer (some ⟨b, 0, none⟩), .slice (some ad) m.length cp] w fun e w' => e = .returned (.tuple #[]) ∧ St S W w' (wrT b (l ++ m) :: L) :=
  h.wrTo (R := fun _ => True) (fun v hv => put_any hv m ad cp hm hs)
theorem wfour_st (h : St S W w (wrT b l :: L)) (n : Nat) (hn : n < 4294967296) (hs : l.length + 4 ≤ 140737488355328) :
    Calls Try.prog 19 #[.pointer (some ⟨b, 0, none⟩), .int .u32 n] w fun e w' => e = .returned (.tuple #[]) ∧ St S W w' (wrT b (l ++ le4 n) :: L) :=
  h.wrTo (R := fun _ => True) (fun v hv => wfour_any hv n hn hs)
theorem str_st (h : St S W w (wrT b l :: L)) :
    Calls Try.prog 20 #[.pointer (some ⟨b, 0, none⟩)] w fun e w' => e = .returned (.string ⟨l.toArray⟩) ∧ w = w' := by
  obtain ⟨v, hv⟩ := h.wr; exact str_any hv
end
end Go.Proofs.Ytdgoaojojebpmaa
