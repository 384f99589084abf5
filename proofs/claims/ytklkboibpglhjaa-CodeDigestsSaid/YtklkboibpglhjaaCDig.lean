/- Layer 9: digests: one number's change; a copy that is written into. -/
import Derived.Test.YtklkboibpglhjaaGe
namespace Go.Proofs.Ytklkboibpglhjaa
open Go.RowKit Go.Proofs.YtklkboibpglhjaaW.PrintWords
set_option linter.unusedVariables false
set_option linter.unusedSimpArgs false
/-! a byte that is another one makes another sum -/
theorem xor_pow_div (a b k : Nat) : (a ^^^ b) / 2 ^ k = (a / 2 ^ k) ^^^ (b / 2 ^ k) := by
  apply Nat.eq_of_testBit_eq; intro i
  simp [Nat.testBit_div_two_pow]
theorem est_top (n : Nat) (h : n < 4294967296) : est n / 2147483648 = n % 2 := by
  unfold est
  split
  · rename_i h1
    rw [show (2147483648 : Nat) = 2 ^ 31 from rfl, xor_pow_div, show (n / 2) / 2 ^ 31 = 0 from Nat.div_eq_of_lt (by omega), h1]
    decide
  · omega
theorem est_inj {n m : Nat} (hn : n < 4294967296) (hm : m < 4294967296) (h : est n = est m) : n = m := by
  have h1 := est_top n hn
  rw [h, est_top m hm] at h1
  unfold est at h
  by_cases e : n % 2 = 1
  · rw [if_pos e, if_pos (by omega)] at h
    have h2 := congrArg (· ^^^ poly) h
    simp only [Nat.xor_assoc, Nat.xor_self, Nat.xor_zero] at h2
    omega
  · rw [if_neg e, if_neg (by omega)] at h
    omega
theorem esti_inj : ∀ (k : Nat) {n m : Nat}, n < 4294967296 → m < 4294967296 → esti k n = esti k m → n = m
  | 0, _, _, _, _, h => h
  | k + 1, _, _, hn, hm, h => est_inj hn hm (esti_inj k (est_lt hn) (est_lt hm) h)
theorem ent_inj {n m : Nat} (hn : n < 4294967296) (hm : m < 4294967296) (h : ent n = ent m) : n = m := esti_inj 8 hn hm h
theorem xor_can {a b c : Nat} (h : a ^^^ c = b ^^^ c) : a = b := by
  have := congrArg (· ^^^ c) h
  simpa only [Nat.xor_assoc, Nat.xor_self, Nat.xor_zero] using this
theorem byte_lt32 (c : UInt8) : c.toNat < 4294967296 := by have := c.toNat_lt; omega
theorem ent_byte (i : Nat) (h : i < 256) : ent i < 4294967296 := ent_lt (by omega)
theorem cfold_inj : ∀ (l : List UInt8) {n m : Nat}, n < 4294967296 → m < 4294967296 → cfold ent n l = cfold ent m l → n = m
  | [], _, _, _, _, h => h
  | c :: l, n, m, hn, hm, h => by
    have h2 := cfold_inj l (cstep_lt ent ent_byte hn c.toNat_lt) (cstep_lt ent ent_byte hm c.toNat_lt) h
    rw [cstep_ent, cstep_ent] at h2
    exact xor_can (ent_inj (xor_lt32 hn (byte_lt32 c)) (xor_lt32 hm (byte_lt32 c)) h2)
theorem cmore_one (pre post : List UInt8) (a b : UInt8) (h : cmore ent 0 (pre ++ a :: post) = cmore ent 0 (pre ++ b :: post)) : a = b := by
  unfold cmore at h
  have h2 := xor_can h
  rw [cfold_append, cfold_append] at h2
  have hn : cfold ent (0 ^^^ ones) pre < 4294967296 := cfold_lt ent ent_byte pre (by decide)
  generalize cfold ent (0 ^^^ ones) pre = n at h2 hn
  have h3 := cfold_inj post (cstep_lt ent ent_byte hn a.toNat_lt) (cstep_lt ent ent_byte hn b.toNat_lt) h2
  rw [cstep_ent, cstep_ent] at h3
  have h4 := ent_inj (xor_lt32 hn (byte_lt32 a)) (xor_lt32 hn (byte_lt32 b)) h3
  rw [Nat.xor_comm n, Nat.xor_comm n] at h4
  exact UInt8.toNat_inj.1 (xor_can h4)
/-! a program of which one number is another one -/
def setK (p : Prg) (j k : Nat) : Prg := ⟨p.rings, p.ths.set 0 ((p.ths.getD 0 []).set j { (p.ths.getD 0 []).getD j default with k := k })⟩
theorem right_setK (x : Ins) (k : Nat) (hop : x.op = 1) (hk : x.k < 64) (hk2 : k < 64) : rightI { x with k := k } = rightI x := by
  have hl : (limOf x.op).k = 18446744073709551615 := by rw [hop]; rfl
  unfold rightI rightB
  simp only [hl]
  rw [decide_eq_true (show k ≤ 18446744073709551615 by omega), decide_eq_true (show x.k ≤ 18446744073709551615 by omega)]
theorem list_at (l : List Ins) (j : Nat) (h : j < l.length) : l = l.take j ++ l.getD j default :: l.drop (j + 1) := by
  rw [← drop_getD l j h, List.take_append_drop]
theorem list_set (l : List Ins) (j : Nat) (h : j < l.length) (y : Ins) : l.set j y = l.take j ++ y :: l.drop (j + 1) := by
  rw [List.set_eq_take_append_cons_drop, if_pos h]
theorem ths_at (ts : List (List Ins)) (h : 0 < ts.length) : ts = ts.getD 0 [] :: ts.drop 1 := by
  cases ts with
  | nil => simp at h
  | cons a l => rfl
theorem setK_written (p : Prg) (j k : Nat) (ht : 0 < p.ths.length) (hj : j < (p.ths.getD 0 []).length) (hop : ((p.ths.getD 0 []).getD j default).op = 1) (hk : ((p.ths.getD 0 []).getD j default).k < 64) (hk2 : k < 64) : writtenB (setK p j k) = writtenB p := by
  obtain ⟨rs, ts⟩ := p
  simp only at ht hj hop hk
  unfold writtenB setK
  simp only [List.length_set]
  congr 1
  conv => rhs; rw [ths_at ts ht]
  rw [show ts.set 0 ((ts.getD 0 []).set j { (ts.getD 0 []).getD j default with k := k }) = ((ts.getD 0 []).set j { (ts.getD 0 []).getD j default with k := k }) :: ts.drop 1 by rw [ths_at ts ht]; rfl]
  simp only [List.all_cons]
  congr 1
  generalize ts.getD 0 [] = l at hj hop hk
  unfold thB
  rw [List.length_set]
  congr 1
  conv => rhs; rw [list_at l j hj]
  rw [list_set l j hj]
  simp only [List.all_append, List.all_cons]
  rw [right_setK _ k hop hk hk2]
theorem setK_bytes (p : Prg) (j : Nat) (ht : 0 < p.ths.length) (hj : j < (p.ths.getD 0 []).length) (hk : ((p.ths.getD 0 []).getD j default).k < 64) :
    ∃ pre post, prB p = pre ++ UInt8.ofNat ((p.ths.getD 0 []).getD j default).k :: post ∧ ∀ k, k < 64 → prB (setK p j k) = pre ++ UInt8.ofNat k :: post := by
  obtain ⟨rs, ts⟩ := p
  simp only at ht hj hk
  refine ⟨(by8 rs.length :: rs.flatMap rngBy) ++ (by8 ts.length :: (vb (ts.getD 0 []).length ++ (((ts.getD 0 []).take j).flatMap insB ++
    [by8 ((ts.getD 0 []).getD j default).op, by8 ((ts.getD 0 []).getD j default).a, by8 ((ts.getD 0 []).getD j default).b, by8 ((ts.getD 0 []).getD j default).c, by8 ((ts.getD 0 []).getD j default).d]))),
    ((ts.getD 0 []).drop (j + 1)).flatMap insB ++ (ts.drop 1).flatMap thBy, ?_, fun k hk2 => ?_⟩
  · unfold prB
    simp only
    conv => lhs; rw [show ts.flatMap thBy = (ts.getD 0 [] :: ts.drop 1).flatMap thBy by rw [← ths_at ts ht]]
    rw [List.flatMap_cons]
    generalize ts.getD 0 [] = l at hj hk
    unfold thBy
    conv => lhs; rw [show l.flatMap insB = (l.take j ++ l.getD j default :: l.drop (j + 1)).flatMap insB by rw [← list_at l j hj]]
    rw [List.flatMap_append, List.flatMap_cons]
    generalize l.getD j default = x at hk
    unfold insB
    rw [vb_small (show x.k < 128 by omega)]
    simp only [List.append_assoc, List.cons_append, List.nil_append]
  · unfold prB setK
    simp only [List.length_set]
    rw [show ts.set 0 ((ts.getD 0 []).set j { (ts.getD 0 []).getD j default with k := k }) = ((ts.getD 0 []).set j { (ts.getD 0 []).getD j default with k := k }) :: ts.drop 1 by rw [ths_at ts ht]; rfl]
    rw [List.flatMap_cons]
    generalize ts.getD 0 [] = l at hj hk
    unfold thBy
    rw [List.length_set, list_set l j hj, List.flatMap_append, List.flatMap_cons]
    generalize l.getD j default = x at hk
    unfold insB
    rw [vb_small (show k < 128 by omega)]
    simp only [List.append_assoc, List.cons_append, List.nil_append]
theorem dig_set (p : Prg) (j k : Nat) (ht : 0 < p.ths.length) (hj : j < (p.ths.getD 0 []).length) (hw : writtenB p = true) (hop : ((p.ths.getD 0 []).getD j default).op = 1) (hk : ((p.ths.getD 0 []).getD j default).k < 64) (hk2 : k < 64) :
    decide (digB p = digB (setK p j k)) = decide (((p.ths.getD 0 []).getD j default).k = k) := by
  obtain ⟨pre, post, h1, h2⟩ := setK_bytes p j ht hj hk
  have h3 := h2 k hk2
  unfold digB
  rw [setK_written p j k ht hj hop hk hk2, hw, if_pos rfl, if_pos rfl, h1, h3]
  by_cases e : ((p.ths.getD 0 []).getD j default).k = k
  · rw [e, decide_eq_true rfl, decide_eq_true rfl]
  · rw [decide_eq_false e, decide_eq_false]
    intro h
    have h4 := congrArg UInt8.toNat (cmore_one pre post _ _ h)
    simp only [UInt8.toNat_ofNat'] at h4
    omega
/-! a copy that is written into -/
structure Cpy (w : World) (base : Nat) (v0 v1 : Value) (p : Prg) : Prop where
  rg : Kd.R PRef.k70 70 w base (fun _ => True) v0 (p.rings.map toR)
  th : Kd.S (Kd.slice 24 PRef.k24) 51 w base (fun _ => True) v1 (toT p.ths)
theorem Cpy.ext {w w' : World} {base : Nat} {v0 v1 : Value} {p : Prg} (h : Cpy w base v0 v1 p) (x : Ext w w') : Cpy w' base v0 v1 p :=
  ⟨Kd.R_step h.rg (fun k _ hk => x.block k hk (fun y => y)), Kd.S_step h.th (fun k _ hk => x.block k hk (fun y => y))⟩
theorem Cpy.arg {w : World} {base : Nat} {v0 v1 : Value} {p : Prg} (h : Cpy w base v0 v1 p) (hok : p.ok) (h8 : p.rings.length ≤ 9223372036854775807) (h9 : p.ths.length ≤ 9223372036854775807) (h10 : ∀ l ∈ p.ths, l.length ≤ 9223372036854775807) :
    PArg w (.agg #[v0, v1]) p := by
  obtain ⟨A2, c2, rfl, g1, g2⟩ := Kd.R_reads h.rg
  obtain ⟨B2, d2, rfl, g3, g4⟩ := Kd.S_reads h.th
  have e1 : (p.rings.map toR).length = p.rings.length := by simp
  have e2 : (toT p.ths).length = p.ths.length := by simp
  exact ⟨⟨A2, B2, c2, d2, by rw [e1, e2], by omega, by omega, kdR_back g2, kdT_back g4⟩, hok, h8, h9, h10⟩
theorem setK_ths (ts : List (List Ins)) (j : Nat) (y : Ins) (h : 0 < ts.length) : toT (ts.set 0 ((ts.getD 0 []).set j y)) = (toT ts).set 0 (((toT ts).getD 0 []).set j (toI y)) := by
  cases ts with
  | nil => simp at h
  | cons a l => simp [toT, List.map_set]
theorem toI_at (l : List Ins) (j : Nat) (h : j < l.length) (z : PRef.S24) : (l.map toI).getD j z = toI (l.getD j default) := by
  rw [List.getD_eq_getElem?_getD, List.getD_eq_getElem?_getD, List.getElem?_map, List.getElem?_eq_getElem h]; rfl
theorem Cpy.write {w : World} {base : Nat} {v0 v1 : Value} {p : Prg} (H : Cpy w base v0 v1 p) (ht : 0 < p.ths.length) (j : Nat) (hj : j < (p.ths.getD 0 []).length) :
    ∃ g cap h cap2, v1 = .slice (some ⟨g, 0, none⟩) p.ths.length cap ∧ base ≤ h ∧ h < w.heap.size ∧ w.cell? ⟨g, 0, none⟩ = some (.slice (some ⟨h, 0, none⟩) (p.ths.getD 0 []).length cap2) ∧
      w.cell? ⟨h, j * 6, none⟩ = some (.int .i64 ((p.ths.getD 0 []).getD j default).op) ∧ w.cell? ⟨h, j * 6 + 5, none⟩ = some (.int .u64 ((p.ths.getD 0 []).getD j default).k) ∧ w.frozen? ⟨h, j * 6 + 5, none⟩ = false ∧
      ∀ k : Nat, Cpy (w.setCell ⟨h, j * 6 + 5, none⟩ (.int .u64 k)) base v0 v1 (setK p j k) := by
  obtain ⟨rg, th⟩ := H
  have e2 : (toT p.ths).length = p.ths.length := by simp
  obtain ⟨g, cap, rfl, _, _, _⟩ := Kd.S_form th (by omega)
  obtain ⟨oki, c, hc1, ⟨v, rfl, hR⟩, hcell, hoki, hH⟩ := Kd.S_lend th ([] : List PRef.S24) 0 (by omega) (by omega)
  have e3 : (toT p.ths).getD (0 : Int).toNat [] = (p.ths.getD 0 []).map toI := by
    rw [ths_at p.ths ht]; rfl
  rw [e3] at hR
  have e4 : ((p.ths.getD 0 []).map toI).length = (p.ths.getD 0 []).length := by simp
  obtain ⟨h, cap2, rfl, hb, hs, cells, hheap⟩ := Kd.R_form hR (by omega)
  obtain ⟨c2, hl2, hM2, hcc, hfr⟩ := Kd.R_elem hR PRef.z24 (j : Int) (by omega) (by omega)
  have e5 : ((p.ths.getD 0 []).map toI).getD (j : Int).toNat PRef.z24 = toI ((p.ths.getD 0 []).getD j default) := by
    rw [Int.toNat_natCast]; exact toI_at _ j hj _
  rw [e5] at hM2
  obtain rfl := PRef.k24_openM hM2
  rw [e2]
  have c0 := hcell 0 _ rfl
  have k0 := hcc 0 _ rfl
  have k5 := hcc 5 _ rfl
  have f5 := hfr 5
  rw [Int.toNat_natCast] at k0 k5 f5
  rw [e4] at c0
  refine ⟨g, cap, h, cap2, rfl, hb, hs, c0, k0, k5, f5, fun k => ?_⟩
  have hs2 := Kd.R_seg hR (j : Int) (by omega) (by omega) (c := _) (seg := [.int .u64 k]) (j := 5) hl2 hcc (by show 5 + 1 ≤ 6; omega) (x' := toI { (p.ths.getD 0 []).getD j default with k := k }) (okp := fun _ => False)
    (PRef.k24_mkM _ _ _ _) (fun _ hk => hk.elim)
  rw [Int.toNat_natCast] at hs2
  obtain ⟨hR2, hg2⟩ := hs2
  have hH2 := Kd.H_grown hH hg2 (fun k hk => by
    injection hk with hk
    subst hk
    exact hR.1 h (by simp [Value.ownBlock]))
  have hS := Kd.H_back hH2 (x' := ((p.ths.getD 0 []).map toI).set j (toI { (p.ths.getD 0 []).getD j default with k := k })) (okp := oki) ⟨_, rfl, by rw [e4] at hR2; rw [e4]; exact hR2⟩ (fun _ hk => hk)
  refine ⟨Kd.R_set rg hheap (by decide) _ _, ?_⟩
  unfold setK
  simp only
  rw [setK_ths _ _ _ ht, show (toT p.ths).getD 0 [] = (p.ths.getD 0 []).map toI from e3]
  rw [e2] at hS
  exact hS
theorem copy_own (v : Value) (p : Prg) (w : World) (h : PArg w v p) (hr : p.rings.length < 5864062014805) (hts : p.ths.length < 5864062014805) (hl : ∀ l ∈ p.ths, l.length < 2932031007402) :
    Calls Try.prog 19 #[v] w fun e w' => ∃ v0 v1, e = .returned (.agg #[v0, v1]) ∧ Cpy w' w.heap.size v0 v1 p ∧ Ext w w' := by
  obtain ⟨k, hk⟩ := (ev_copy p hr hts hl).get
  obtain ⟨A, B, ca, cb, rfl, h1, h2, h3⟩ := h.arg
  have h8 := h.nr
  have h9 := h.nt
  have := PRef.rondeauref09_Copy.calls k A ca (p.rings.map toR) B cb (toT p.ths) _ _ w (kdR h3.rg (by omega)) (by simpa using h1) (kdT h3.th (by omega)) (by simpa using h2) hk
  rw [List.length_map, List.length_map] at this
  refine this.mono ?_
  rintro e w' ⟨v0, v1, rfl, hR, hS, hb⟩
  exact ⟨v0, v1, rfl, ⟨hR, hS⟩, Ext.of_below hb⟩
end Go.Proofs.Ytklkboibpglhjaa
