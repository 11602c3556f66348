/- Part 7 of 7 of the proof: the statement. JudgeReplays answers true for every input.  -/
import Derived.Test.YtidmngajngemjaaRows
import Derived.WalkKit
import Derived.ProofKit
import Derived.OpenShut
import Derived.ShutString
import Derived.ChangeOld
import Derived.Below
import Derived.SizedLaws
import Derived.Test.YtidmngajngemjaaPk1
import Derived.Test.YtidmngajngemjaaPk2
import Derived.Test.YtidmngajngemjaaPk3
import Derived.Test.YtidmngajngemjaaPk4
import Derived.Test.YtidmngajngemjaaPk5
import Derived.Test.YtidmngajngemjaaPk6
/- Nets that are made may be. -/
namespace Go.Proofs.Ytidmngajngemjaa
set_option linter.all false
open Go Go.Proofs.Ytidmngajngemjaa.Fw
set_option maxRecDepth 100000
set_option maxHeartbeats 1000000
set_option linter.unusedSimpArgs false

def NdA (l : List Arc) : Prop := ∀ i k, k < i → i < l.length → (l.getD k dArc).p ≠ (l.getD i dArc).p
theorem NdA.nil : NdA [] := fun i k _ h => by simp at h
theorem NdA.put {l : List Arc} (h : NdA l) (p n : Int) : NdA (putL l p n) := by
  unfold putL
  split
  · exact h
  · rename_i hn
    intro i k hk hi
    rw [List.length_append, List.length_singleton] at hi
    by_cases e : i = l.length
    · subst e
      have e1 : (l ++ [(⟨p, n⟩ : Arc)]).getD l.length dArc = ⟨p, n⟩ := by rw [List.getD_eq_getElem?_getD, List.getElem?_append_right (Nat.le_refl _), Nat.sub_self]; rfl
      have e2 : (l ++ [(⟨p, n⟩ : Arc)]).getD k dArc = l.getD k dArc := by rw [List.getD_eq_getElem?_getD, List.getElem?_append_left hk, List.getD_eq_getElem?_getD]
      rw [e1, e2]
      intro e3
      exact hn (List.any_eq_true.2 ⟨_, getD_mem (d := dArc) hk, decide_eq_true e3⟩)
    · have e1 : ∀ j, j < l.length → (l ++ [(⟨p, n⟩ : Arc)]).getD j dArc = l.getD j dArc := fun j hj => by rw [List.getD_eq_getElem?_getD, List.getElem?_append_left hj, List.getD_eq_getElem?_getD]
      rw [e1 k (by omega), e1 i (by omega)]
      exact h i k hk (by omega)
def ArcG (M : Nat) (a : Arc) : Prop := (0 ≤ a.p ∧ a.p < M) ∧ 1 ≤ a.n ∧ a.n ≤ 1000000
theorem arcsV_good {l : List Arc} {M : Nat} (h : ∀ a ∈ l, ArcG M a) (hd : NdA l) : arcsV l M = 0 := by
  refine firstV_zero fun i hi => ?_
  have ha := h _ (getD_mem (d := dArc) hi)
  unfold ArcG at ha
  unfold arcV
  rw [if_neg (by unfold badI; omega), if_neg (by omega), if_neg]
  rintro ⟨k, hk, e⟩
  exact hd i k hk hi e
theorem w64_small {v : Int} (h : 0 ≤ v) (h2 : v < 1000) : IntKind.i64.wrap v = v := wrap_of (by omega) (by omega)
theorem one_mod (v : Int) (h : 0 ≤ v ∧ v < 256) : 1 ≤ IntKind.i64.wrap (1 + IntKind.i64.wrap (IntKind.u8.wrap v)) ∧ IntKind.i64.wrap (1 + IntKind.i64.wrap (IntKind.u8.wrap v)) ≤ 1000000 := by
  have := u8_le v
  rw [w64_small (v := IntKind.u8.wrap v) this.1 (by omega), w64_small (by omega) (by omega)]; omega
theorem tdiv_in (v : Int) (d : Int) (h : 0 ≤ v ∧ v < 256) (hd : 0 < d) : 0 ≤ v.tdiv d ∧ v.tdiv d < 256 := by
  refine ⟨Int.tdiv_nonneg h.1 (by omega), ?_⟩
  have := Int.tdiv_le_self d h.1
  omega
theorem tIn_good (M : Nat) (x : Act) (hM : 1 ≤ M) (hx : okAct x) : (∀ a ∈ tIn M x, ArcG M a) ∧ NdA (tIn M x) := by
  have hin := tIn_in M x hM hx
  obtain ⟨_, _, hi, hj, hn, ho, hq⟩ := hx
  have h1 : (∀ a ∈ tIn1 M x, 1 ≤ a.n ∧ a.n ≤ 1000000) ∧ NdA (tIn1 M x) := by
    refine ⟨putL_all (by simp) ?_, NdA.nil.put _ _⟩
    have hd := tdiv_in x.i 64 hi (by omega)
    have hu := u8_le (x.i.tdiv 64)
    have h5 := Int.tmod_nonneg (2 : Int) (show 0 ≤ IntKind.i64.wrap (IntKind.u8.wrap (x.i.tdiv 64)) by rw [w64_small hu.1 (by omega)]; exact hu.1)
    have h6 := Int.tmod_lt_of_pos (IntKind.i64.wrap (IntKind.u8.wrap (x.i.tdiv 64))) (show (0 : Int) < 2 by omega)
    show 1 ≤ IntKind.i64.wrap (1 + _) ∧ IntKind.i64.wrap (1 + _) ≤ 1000000
    rw [w64_small (by omega) (by omega)]; omega
  have h2 : (∀ a ∈ tIn M x, 1 ≤ a.n ∧ a.n ≤ 1000000) ∧ NdA (tIn M x) := by
    unfold tIn; split
    · exact ⟨putL_all h1.1 (by show (1 : Int) ≤ 1 ∧ (1 : Int) ≤ 1000000; omega), h1.2.put _ _⟩
    · exact h1
  exact ⟨fun a ha => ⟨hin a ha, h2.1 a ha⟩, h2.2⟩
theorem tNot_good (M : Nat) (x : Act) (hM : 1 ≤ M) (hx : okAct x) : (∀ a ∈ tNot M x, ArcG M a) ∧ NdA (tNot M x) := by
  have hin := tNot_in M x hM
  obtain ⟨_, _, hi, hj, hn, ho, hq⟩ := hx
  have h2 : (∀ a ∈ tNot M x, 1 ≤ a.n ∧ a.n ≤ 1000000) ∧ NdA (tNot M x) := by
    unfold tNot; split
    · exact ⟨putL_all (by simp) (one_mod _ (tdiv_in x.n 64 hn (by omega))), NdA.nil.put _ _⟩
    · exact ⟨by simp, NdA.nil⟩
  exact ⟨fun a ha => ⟨hin a ha, h2.1 a ha⟩, h2.2⟩
theorem tOut_good (M : Nat) (x : Act) (hM : 1 ≤ M) (hx : okAct x) : (∀ a ∈ tOut M x, ArcG M a) ∧ NdA (tOut M x) := by
  have hin := tOut_in M x hM
  obtain ⟨_, _, hi, hj, hn, ho, hq⟩ := hx
  have h1 : (∀ a ∈ tOut1 M x, 1 ≤ a.n ∧ a.n ≤ 1000000) ∧ NdA (tOut1 M x) := by
    unfold tOut1; split
    · exact ⟨putL_all (by simp) (one_mod _ (tdiv_in x.o 128 ho (by omega))), NdA.nil.put _ _⟩
    · exact ⟨by simp, NdA.nil⟩
  have h2 : (∀ a ∈ tOut M x, 1 ≤ a.n ∧ a.n ≤ 1000000) ∧ NdA (tOut M x) := by
    unfold tOut; split
    · exact ⟨putL_all h1.1 (by show (1 : Int) ≤ 1 ∧ (1 : Int) ≤ 1000000; omega), h1.2.put _ _⟩
    · exact h1
  exact ⟨fun a ha => ⟨hin a ha, h2.1 a ha⟩, h2.2⟩
def plName (k : Nat) : ByteArray := ⟨#[112]⟩ ++ ⟨#[UInt8.ofNat (IntKind.u8.wrap (IntKind.i64.wrap (97 + (k : Int)))).toNat]⟩
theorem names_good : (∀ i, i < 7 → NameP (plName i)) ∧ (∀ i, i < 9 → NameP (trName i)) ∧ (∀ i, i < 7 → ∀ k, k < i → plName k ≠ plName i) ∧ (∀ i, i < 9 → ∀ k, k < i → trName k ≠ trName i) ∧ (∀ i, i < 9 → ∀ k, k < 7 → plName k ≠ trName i) := by decide
theorem makeN_names (d : Draft) : NamesP (makeN d) := by
  obtain ⟨g1, g2, g3, g4, g5⟩ := names_good
  have hM := mkM_le d
  obtain ⟨M, hMM⟩ : ∃ M, mkM d = M := ⟨_, rfl⟩
  obtain ⟨A, hA⟩ : ∃ A, min d.acts.length 9 = A := ⟨_, rfl⟩
  have hA9 : A ≤ 9 := by omega
  have hn : namesL (makeN d) = (List.range M).map plName ++ (List.range A).map trName := by
    unfold namesL makeN
    rw [hMM, hA]
    simp only [List.map_map]
    rfl
  have hl : (namesL (makeN d)).length = M + A := by rw [hn]; simp
  have hat : ∀ i, i < M + A → nameAt (makeN d) i = if i < M then plName i else trName (i - M) := fun i hi => by
    unfold nameAt
    rw [hn]
    by_cases h : i < M
    · rw [if_pos h, List.getD_eq_getElem?_getD, List.getElem?_append_left (by simpa using h), List.getElem?_map, List.getElem?_range h]; rfl
    · rw [if_neg h, List.getD_eq_getElem?_getD, List.getElem?_append_right (by simpa using h), List.getElem?_map]
      rw [show i - (List.map plName (List.range M)).length = i - M from by simp, List.getElem?_range (by omega)]; rfl
  intro i hi
  rw [hl] at hi
  refine ⟨?_, fun k hk => ?_⟩
  · rw [hat i hi]
    split
    · exact g1 i (by omega)
    · exact g2 (i - M) (by omega)
  · rw [hat i hi, hat k (by omega)]
    by_cases h : i < M
    · rw [if_pos h, if_pos (by omega)]; exact g3 i (by omega) k hk
    · rw [if_neg h]
      by_cases h2 : k < M
      · rw [if_pos h2]; exact g5 (i - M) (by omega) k (by omega)
      · rw [if_neg h2]; exact g4 (i - M) (by omega) (k - M) (by omega)
theorem tmod_in5 (v : Int) (m : Int) (h : 0 ≤ v) (hm : 0 < m) (hm2 : m ≤ 10) : 0 ≤ IntKind.i64.wrap (v.tmod m) ∧ IntKind.i64.wrap (v.tmod m) < m := by
  have h1 := Int.tmod_nonneg m h
  have h2 := Int.tmod_lt_of_pos v hm
  rw [w64_small h1 (by omega)]; omega
theorem makeN_check (d : Draft) (hd : okDraft d) : checkV (makeN d) = 0 := by
  have hM := mkM_le d
  have hM1 := mkM_pos d
  have hP := makeN_places d
  have hT := makeN_trans d
  have htr : ∀ k, k < (makeN d).trans.length → (makeN d).trans.getD k dTrans = mkTr d k := fun k hk => by
    rw [hT] at hk
    show ((List.range (min d.acts.length 9)).map (mkTr d)).getD k dTrans = _
    exact gmap_range _ _ hk
  have hpl : ∀ k, k < (makeN d).places.length → (makeN d).places.getD k dPlace = mkP d k := fun k hk => by
    rw [hP] at hk
    show ((List.range (mkM d)).map (mkP d)).getD k dPlace = _
    exact gmap_range _ _ hk
  unfold checkV
  rw [if_neg, if_pos (makeN_names d)]
  · unfold numV
    have h1 : firstV (plV (makeN d)) (makeN d).places.length = 0 := firstV_zero fun i hi => by
      unfold plV
      rw [hpl i hi, if_neg]
      have : 0 ≤ (mkP d i).tokens ∧ (mkP d i).tokens < 5 := by
        show 0 ≤ tokK d i ∧ tokK d i < 5
        unfold tokK
        split
        · rename_i h
          have := hd.1 _ (getD_mem (d := 0) h)
          exact tmod_in5 _ 5 this.1 (by omega) (by omega)
        · omega
      unfold badI; omega
    rw [if_pos h1]
    refine firstV_zero fun k hk => ?_
    rw [htr k hk]
    have ha := hd.2 _ (getD_mem (d := dAct) (l := d.acts) (k := k) (by rw [hT] at hk; omega))
    have hx : okAct (gA d k) := ha
    unfold trV
    have hdl : 0 ≤ (mkTr d k).delay ∧ (mkTr d k).delay < 5 := by
      have h0 := tmod_in5 (gA d k).d 5 hx.1.1 (by omega) (by omega)
      show 0 ≤ tDel (gA d k) ∧ tDel (gA d k) < 5
      unfold tDel
      split
      · omega
      · exact h0
    have hpr := tmod_in5 (gA d k).p 3 hx.2.1.1 (by omega) (by omega)
    have hpr2 : (mkTr d k).prio = IntKind.i64.wrap ((gA d k).p.tmod 3) := rfl
    rw [if_neg (by unfold badI; omega)]
    refine firstV_zero fun j hj => ?_
    unfold listOf
    rw [hP]
    split
    · exact arcsV_good (tIn_good _ _ hM1 hx).1 (tIn_good _ _ hM1 hx).2
    · split
      · exact arcsV_good (tNot_good _ _ hM1 hx).1 (tNot_good _ _ hM1 hx).2
      · exact arcsV_good (tOut_good _ _ hM1 hx).1 (tOut_good _ _ hM1 hx).2
  · rintro (h | h | ⟨k, hk, h⟩)
    · rw [hP] at h; omega
    · rw [hT] at h; omega
    · rw [htr k hk] at h
      unfold longT at h
      have h1 := tIn_len (mkM d) (gA d k)
      have h2 := tNot_len (mkM d) (gA d k)
      have h3 := tOut_len (mkM d) (gA d k)
      simp only [mkTr] at h
      omega
end Go.Proofs.Ytidmngajngemjaa
/- Replay and runs: a run's log can be gone through again. The plain law. -/
namespace Go.Proofs.Ytidmngajngemjaa
set_option linter.all false
open Go Go.Proofs.Ytidmngajngemjaa.Fw
set_option maxRecDepth 100000
set_option maxHeartbeats 1000000
set_option linter.unusedSimpArgs false

theorem w64_eq (x : Int) : w64 x = (x + 9223372036854775808) % 18446744073709551616 - 9223372036854775808 := by
  show IntKind.i64.wrap x = _
  unfold IntKind.wrap; simp [IntKind.signed, IntKind.bits]; omega
theorem w64_add (a b : Int) : w64 (w64 a + b) = w64 (a + b) := by rw [w64_eq, w64_eq a, w64_eq]; omega
theorem addM_comm (m : List Int) (p a q b : Int) : addM (addM m p a) q b = addM (addM m q b) p a := by
  unfold addM
  by_cases e : p.toNat = q.toNat
  · rw [e]
    by_cases h : q.toNat < m.length
    · rw [List.set_set, List.set_set, List.getD_eq_getElem?_getD, List.getElem?_set_self h, List.getD_eq_getElem?_getD (l := m.set _ _), List.getElem?_set_self h]
      congr 1
      show w64 (w64 _ + b) = w64 (w64 _ + a)
      rw [w64_add, w64_add]; congr 1; omega
    · have hh : ∀ v, m.set q.toNat v = m := fun v => List.set_eq_of_length_le (by omega)
      simp only [hh]
  · rw [List.set_comm _ _ e]
    have e1 : (m.set p.toNat (w64 (m.getD p.toNat 0 + a))).getD q.toNat 0 = m.getD q.toNat 0 := by
      rw [List.getD_eq_getElem?_getD, List.getElem?_set_ne e, ← List.getD_eq_getElem?_getD]
    have e2 : (m.set q.toNat (w64 (m.getD q.toNat 0 + b))).getD p.toNat 0 = m.getD p.toNat 0 := by
      rw [List.getD_eq_getElem?_getD, List.getElem?_set_ne (Ne.symm e), ← List.getD_eq_getElem?_getD]
    rw [e1, e2]
theorem subM_add (m : List Int) (p n : Int) : subM m p n = addM m p (-n) := rfl
def bringM (m : List Int) (l : List Ev) : List Int := l.foldl (fun m e => addM m e.p e.n) m
def bringW (m : List Int) (l : List Ev) : List Int := l.foldl (fun m e => subM m e.p e.n) m
theorem bringM_perm {l l' : List Ev} (h : l.Perm l') : ∀ m, bringM m l = bringM m l' := by
  induction h with
  | nil => intro m; rfl
  | cons x _ ih => intro m; exact ih _
  | swap x y l => intro m; show bringM (addM (addM m y.p y.n) x.p x.n) l = bringM (addM (addM m x.p x.n) y.p y.n) l; rw [addM_comm]
  | trans _ _ h1 h2 => intro m; rw [h1, h2]
theorem bringW_perm {l l' : List Ev} (h : l.Perm l') : ∀ m, bringW m l = bringW m l' := by
  induction h with
  | nil => intro m; rfl
  | cons x _ ih => intro m; exact ih _
  | swap x y l => intro m; show bringW (subM (subM m y.p y.n) x.p x.n) l = bringW (subM (subM m x.p x.n) y.p y.n) l; rw [subM_add, subM_add, subM_add, subM_add, addM_comm]
  | trans _ _ h1 h2 => intro m; rw [h1, h2]
abbrev isLate (t : Int) (e : Ev) : Bool := decide (t < e.t)
theorem comeS_fold (t : Int) : ∀ (l : List Ev) (c : CS), (l.foldl (comeS t) c).left = c.left ++ l.filter (isLate t) ∧ (l.foldl (comeS t) c).marks = bringM c.marks (l.filter (fun e => !isLate t e)) ∧ (l.foldl (comeS t) c).way = bringW c.way (l.filter (fun e => !isLate t e))
  | [], c => by simp [bringM, bringW]
  | e :: l, c => by
    obtain ⟨h1, h2, h3⟩ := comeS_fold t l (comeS t c e)
    rw [List.foldl_cons, h1, h2, h3]
    unfold comeS
    by_cases h : t < e.t
    · rw [if_pos h, List.filter_cons_of_pos (by exact decide_eq_true h), List.filter_cons_of_neg (by simp [isLate, h])]
      exact ⟨by simp, rfl, rfl⟩
    · rw [if_neg h, List.filter_cons_of_neg (by simp [isLate, h]), List.filter_cons_of_pos (by simp [isLate, h])]
      exact ⟨rfl, rfl, rfl⟩
theorem jcome_wait (S : RS) (t : Int) : (jcome S t).wait = S.wait.filter (isLate t) := by
  have := (comeS_fold t S.wait ⟨[], S.marks, S.way, false⟩).1
  show (cmK t S.wait S.marks S.way S.wait.length).left = _
  unfold cmK; rw [List.take_length, this]; rfl
theorem jcome_marks (S : RS) (t : Int) : (jcome S t).marks = bringM S.marks (S.wait.filter (fun e => !isLate t e)) := by
  have := (comeS_fold t S.wait ⟨[], S.marks, S.way, false⟩).2.1
  show (cmK t S.wait S.marks S.way S.wait.length).marks = _
  unfold cmK; rw [List.take_length, this]
theorem jcome_way (S : RS) (t : Int) : (jcome S t).way = bringW S.way (S.wait.filter (fun e => !isLate t e)) := by
  have := (comeS_fold t S.wait ⟨[], S.marks, S.way, false⟩).2.2
  show (cmK t S.wait S.marks S.way S.wait.length).way = _
  unfold cmK; rw [List.take_length, this]
/-- The same tokens, the same on their way. -/
structure Eqv (S J : RS) : Prop where
  m : S.marks = J.marks
  w : S.way = J.way
  q : S.wait = J.wait
theorem Eqv.refl (S : RS) : Eqv S S := ⟨rfl, rfl, rfl⟩
theorem Eqv.trans {A B C : RS} (h : Eqv A B) (k : Eqv B C) : Eqv A C := ⟨h.m.trans k.m, h.w.trans k.w, h.q.trans k.q⟩
theorem Eqv.come {A B : RS} (h : Eqv A B) (t : Int) : Eqv (jcome A t) (jcome B t) := by
  refine ⟨?_, ?_, ?_⟩
  · rw [jcome_marks, jcome_marks, h.m, h.q]
  · rw [jcome_way, jcome_way, h.w, h.q]
  · rw [jcome_wait, jcome_wait, h.q]
theorem filter_two {l : List Ev} {t u : Int} (h : t ≤ u) : (l.filter (fun e => !isLate t e)) ++ ((l.filter (isLate t)).filter (fun e => !isLate u e)) |>.Perm (l.filter (fun e => !isLate u e)) := by
  have e1 : l.filter (fun e => !isLate t e) = (l.filter (fun e => !isLate u e)).filter (fun e => !isLate t e) := by
    rw [List.filter_filter]
    congr 1; funext e
    simp only [isLate]
    by_cases h1 : t < e.t
    · simp [h1]
    · have : ¬ u < e.t := by omega
      simp [h1, this]
  have e2 : (l.filter (isLate t)).filter (fun e => !isLate u e) = (l.filter (fun e => !isLate u e)).filter (isLate t) := by
    rw [List.filter_filter, List.filter_filter]
    congr 1; funext e
    exact Bool.and_comm _ _
  rw [e1, e2]
  refine List.Perm.trans List.perm_append_comm ?_
  exact List.filter_append_perm _ _
theorem jcome_two (S : RS) {t u : Int} (h : t ≤ u) : Eqv (jcome (jcome S t) u) (jcome S u) := by
  refine ⟨?_, ?_, ?_⟩
  · rw [jcome_marks, jcome_marks, jcome_marks, jcome_wait, ← bringM_perm (filter_two (l := S.wait) h) S.marks]
    unfold bringM; rw [List.foldl_append]
  · rw [jcome_way, jcome_way, jcome_way, jcome_wait, ← bringW_perm (filter_two (l := S.wait) h) S.way]
    unfold bringW; rw [List.foldl_append]
  · rw [jcome_wait, jcome_wait, jcome_wait, List.filter_filter]
    congr 1; funext e
    simp only [isLate]
    by_cases h1 : u < e.t
    · have : t < e.t := by omega
      simp [h1, this]
    · simp [h1]
theorem jcome_late {S : RS} {t : Int} (h : ∀ e ∈ S.wait, t < e.t) : Eqv (jcome S t) S := by
  have e1 : S.wait.filter (isLate t) = S.wait := List.filter_eq_self.2 (fun e he => decide_eq_true (h e he))
  have e2 : S.wait.filter (fun e => !isLate t e) = [] := List.filter_eq_nil_iff.2 (fun e he => by simp [isLate, h e he])
  refine ⟨?_, ?_, ?_⟩
  · rw [jcome_marks, e2]; rfl
  · rw [jcome_way, e2]; rfl
  · rw [jcome_wait, e1]
theorem outK_eqv (t : Trans) {A B : RS} (h : Eqv A B) (ht : A.time = B.time) : ∀ k, k ≤ t.out.length → Eqv (outK t A k).1 (outK t B k).1 ∧ (outK t A k).1.time = (outK t B k).1.time
  | 0, _ => ⟨h, ht⟩
  | k + 1, hk => by
    obtain ⟨g, g2⟩ := outK_eqv t h ht k (by omega)
    rw [outK_succ t A k (by omega), outK_succ t B k (by omega)]
    unfold outS
    split
    · exact ⟨⟨g.m, by dsimp only; rw [g.w], by dsimp only; rw [g.q, g2]⟩, g2⟩
    · exact ⟨⟨by dsimp only; rw [g.m], g.w, g.q⟩, g2⟩
theorem jGo_app (n : Net) : ∀ (a b : List Fire) (k : Nat) (S : RS), jGo n (a ++ b) k S = (match (jGo n a k S).2 with | none => jGo n b (k + a.length) (jGo n a k S).1 | some q => ((jGo n a k S).1, some q))
  | [], b, k, S => by simp [jGo]
  | f :: a, b, k, S => by
    rw [List.cons_append, jGo, jGo]
    cases jstep n S f with
    | none => rfl
    | some S' =>
      show jGo n (a ++ b) (k + 1) S' = _
      rw [jGo_app n a b (k + 1) S', List.length_cons, show k + 1 + a.length = k + (a.length + 1) from by omega]
theorem jGo_ge (n : Net) : ∀ (a : List Fire) (k : Nat) (S : RS) (q : Nat), (jGo n a k S).2 = some q → k ≤ q
  | [], k, S, q, h => by cases h
  | f :: a, k, S, q, h => by
    rw [jGo] at h
    cases hs : jstep n S f with
    | none => rw [hs] at h; cases h; exact Nat.le_refl _
    | some S' => rw [hs] at h; have := jGo_ge n a (k + 1) S' q h; omega
theorem jrun_snoc {n : Net} {l : List Fire} {J J' : RS} {f : Fire} (h : jrun n l = (J, none)) (hs : jstep n J f = some J') : jrun n (l ++ [f]) = (J', none) := by
  unfold jrun at h ⊢
  rw [jGo_app, h]
  show jGo n [f] _ J = _
  rw [jGo, hs]; rfl
/-- A run's log can be gone through, to what it has come to. -/
def JR (n : Net) (S : RS) : Prop := ∃ J, jrun n S.log = (J, none) ∧ Eqv S (jcome J S.time) ∧ J.time ≤ S.time ∧ (J.time = S.time → Eqv S J)
theorem JR.fire {n : Net} (hG : NetG n) {S : RS} (h : RG2 n S) (hj : JR n S) {i : Nat} (hi : i < n.trans.length) (hb : bestT n S.marks = (i : Int)) : JR n (fireV n i S).1 := by
  have hgd := (fireV_good hG h hi).1
  unfold fireV at hgd ⊢
  split
  · exact hj
  rename_i h1
  split
  · exact hj
  rename_i h2
  split
  · exact hj
  rename_i h3
  rw [if_neg h1, if_neg h2, if_neg h3] at hgd
  obtain ⟨t, ht⟩ : ∃ t, n.trans.getD i dTrans = t := ⟨_, rfl⟩
  rw [ht] at hgd ⊢
  obtain ⟨J, j1, j2, j3, j4⟩ := hj
  obtain ⟨o1, o2, _⟩ := outK_inv t (fire1 t i S) t.out.length (Nat.le_refl _)
  have htm := h.time
  have hs : jstep n J ⟨S.time, (i : Int)⟩ = some (jfire n (jcome J S.time) i) := by
    unfold jstep
    rw [if_neg (by simp only; omega), if_pos ⟨by show (i : Int) = bestT n (jcome J S.time).marks; rw [← j2.m]; exact hb.symm, by simp only; omega⟩]; rfl
  have hE : Eqv (outK t (fire1 t i S) t.out.length).1 (jfire n (jcome J S.time) i) ∧ (outK t (fire1 t i S) t.out.length).1.time = (jfire n (jcome J S.time) i).time := by
    have := outK_eqv t (A := fire1 t i S) (B := jtake n (jcome J S.time) i) ⟨by show takeN S.marks t.inn = takeN (jcome J S.time).marks (n.trans.getD i dTrans).inn; rw [ht, j2.m], j2.w, j2.q⟩ rfl _ (Nat.le_refl _)
    unfold jfire
    rw [ht]; exact this
  refine ⟨jfire n (jcome J S.time) i, ?_, ?_, ?_, fun _ => hE.1⟩
  · dsimp only
    rw [o1]; exact jrun_snoc j1 hs
  · dsimp only
    exact hE.1.trans ⟨((jcome_late (fun e he => hgd.late e (hE.1.q ▸ he))).m).symm, ((jcome_late (fun e he => hgd.late e (hE.1.q ▸ he))).w).symm, ((jcome_late (fun e he => hgd.late e (hE.1.q ▸ he))).q).symm⟩
  · dsimp only
    rw [← hE.2]; exact Int.le_refl _
theorem firesV_jr {n : Net} (hG : NetG n) : ∀ (f : Nat) {S : RS}, RG2 n S → JR n S → JR n (firesV n f S).1
  | 0, S, _, h => h
  | f + 1, S, h, hj => by
    rw [firesV]
    have hb := bestT_in n S.marks
    split
    · exact hj
    · obtain ⟨g1, g2, _⟩ := fireV_good hG h (i := (bestT n S.marks).toNat) (by omega)
      have hj2 := hj.fire hG h (i := (bestT n S.marks).toNat) (by omega) (by omega)
      split
      · exact firesV_jr hG f g1 hj2
      · exact hj2
theorem instV_jr {n : Net} (hG : NetG n) {S : RS} (h : RG n S) (hj : JR n (inst1 n S)) : JR n (instV n S).1 := by
  unfold instV
  split
  · exact hj
  · exact firesV_jr hG 2001 (inst1_good h) hj
theorem runV_jr {n : Net} (hG : NetG n) (h : Int) : ∀ (f : Nat) {S : RS} (t : Int), (0 ≤ t → RG n (setT S t)) → JR n S → (0 ≤ t → JR n (inst1 n (setT S t))) → JR n (runV n h f S t).1
  | 0, S, t, _, hj, _ => hj
  | f + 1, S, t, hR, hj, hj2 => by
    by_cases ht : 0 ≤ t ∧ t ≤ h
    · rw [runV_go n h f S t ht]
      obtain ⟨g1, g2⟩ := instV_good hG (hR ht.1)
      have hj3 := instV_jr hG (hR ht.1) (hj2 ht.1)
      split
      · have hn := next_good g1
        obtain ⟨S', hS⟩ : ∃ S', (instV n (setT S t)).1 = S' := ⟨_, rfl⟩
        rw [hS] at hj3 hn ⊢
        refine runV_jr hG h f _ (fun hn0 => ?_) hj3 (fun hn0 => ?_)
        · rcases hn with h1 | ⟨_, h1⟩
          · omega
          · exact h1
        · have hlt : S'.time < nextV S'.wait := by
            rcases hn with h1 | ⟨h1, _⟩
            · omega
            · exact h1
          obtain ⟨J, j1, j2, j3, j4⟩ := hj3
          refine ⟨J, j1, ?_, by show J.time ≤ nextV S'.wait; omega, fun e => ?_⟩
          · have : Eqv (inst1 n (setT S' (nextV S'.wait))) (jcome S' (nextV S'.wait)) := ⟨rfl, rfl, rfl⟩
            exact this.trans ((j2.come _).trans (jcome_two J (by omega)))
          · have e : J.time = nextV S'.wait := e
            omega
      · exact hj3
    · rw [runV_stop n h _ S t ht]; exact hj
theorem start_jr (n : Net) : JR n (startS n) ∧ JR n (inst1 n (setT (startS n) 0)) :=
  ⟨⟨startS n, rfl, ⟨rfl, rfl, rfl⟩, Int.le_refl _, fun _ => ⟨rfl, rfl, rfl⟩⟩, ⟨startS n, rfl, ⟨rfl, rfl, rfl⟩, Int.le_refl _, fun _ => ⟨rfl, rfl, rfl⟩⟩⟩
theorem plainV_jr {n : Net} (hG : NetG n) (h : Int) : JR n (plainV n h).1 :=
  runV_jr hG h _ 0 (fun _ => start_good) (start_jr n).1 (fun _ => (start_jr n).2)
/-- Another firing. -/
theorem jrun_set {n : Net} {l : List Fire} {J : RS} (h : jrun n l = (J, none)) {i : Nat} (hi : i < l.length) (f : Fire) :
    ((f.t = (l.getD i dFire).t → f ≠ l.getD i dFire → (jrun n (l.set i f)).2 = some i) ∧ ∀ k, (jrun n (l.set i f)).2 = some k → i ≤ k) := by
  have e0 : l = l.take i ++ (l.getD i dFire :: l.drop (i + 1)) := by
    rw [List.getD_eq_getElem?_getD, List.getElem?_eq_getElem hi, Option.getD_some, ← List.drop_eq_getElem_cons hi, List.take_append_drop]
  have e1 : l.set i f = l.take i ++ (f :: l.drop (i + 1)) := by
    rw [List.set_eq_take_append_cons_drop, if_pos hi]
  have ht : (l.take i).length = i := by rw [List.length_take]; omega
  obtain ⟨g, hg⟩ : ∃ g, l.getD i dFire = g := ⟨_, rfl⟩
  rw [hg] at e0 ⊢
  unfold jrun at h ⊢
  rw [e0, jGo_app] at h
  rw [e1, jGo_app]
  obtain ⟨R, hR⟩ : ∃ R, jGo n (l.take i) 0 (startS n) = R := ⟨_, rfl⟩
  rw [hR] at h ⊢
  obtain ⟨S, q⟩ := R
  cases q with
  | some q => cases h
  | none =>
    dsimp only at h ⊢
    rw [ht] at h ⊢
    rw [Nat.zero_add] at h ⊢
    refine ⟨fun h1 h2 => ?_, fun k hk => jGo_ge n _ _ _ _ hk⟩
    rw [jGo] at h ⊢
    have hs : jstep n S f = none := by
      unfold jstep at h ⊢
      by_cases hc : g.t < S.time ∨ maxT < g.t
      · rw [if_pos hc] at h; cases h
      · rw [if_neg hc] at h
        rw [if_neg (by rw [h1]; exact hc)]
        by_cases hc2 : g.i = bestT n (jcome S g.t).marks ∧ 0 ≤ g.i
        · rw [if_neg]
          intro h3
          refine h2 ?_
          obtain ⟨ft, fi⟩ := f
          obtain ⟨gt, gi⟩ := g
          dsimp only at h1 h3 hc2
          subst h1
          rw [h3.1, hc2.1]
        · rw [if_neg hc2] at h; cases h
    rw [hs]
end Go.Proofs.Ytidmngajngemjaa
/- SameLog and Same, of package marblerunref09. -/
namespace Go.Proofs.Ytidmngajngemjaa
set_option linter.all false
open Go Go.Proofs.Ytidmngajngemjaa.Fw
set_option maxRecDepth 100000
set_option maxHeartbeats 4000000
set_option linter.unusedSimpArgs false

theorem samelog_ok (a b : List Fire) (ka kb : Nat) (st : Store) (nx : Nat) (K : AV → Store → Nat → Prop) (hl : ka ≤ 1000000)
    (hK : K (.bool (decide (ka = kb ∧ ∀ i, i < ka → a.getD i dFire = b.getD i dFire))) st nx) : SCall Try.prog 20 [.fz 2 ka (fun i => eFire (a.getD i dFire)), .fz 2 kb (fun i => eFire (b.getD i dFire))] st nx K := by
  refine SCall.enter' 26 Try.func20 rfl (by kernel_rfl) rfl (Nat.le_of_ble_eq_true rfl) ?_
  intro hfin
  refine SRun.run 100 ?_; simp -implicitDefEqProofs only [↓qx, qr, ql, qb, qs1, qs2, qs3, qs4, qs5, nilA, clearA, Value.oneCell', forall_const, guards, idxA, indexVA, lenA, buildA, bsA, sliceA, ↓reduceIte, ne_eq, Nat.reduceAdd, Nat.reduceBNe, Nat.reduceMul, Nat.reduceSub, Int.reduceEq, Int.reduceNe, Int.reduceLT, Int.reduceLE, Int.reduceAdd, Int.reduceMul, Int.reduceSub, Int.reduceNeg, Nat.reduceBEq, Nat.reduceEqDiff, Nat.reduceLT, Nat.reduceLeDiff, Int.reduceToNat, tis, show Try.f20.results = #[Go.ResultVar.tmp 4] from rfl,  tab]
  refine ⟨fun h1 => ?_, fun h1 => ?_⟩
  · obtain ⟨I1, hI1⟩ : ∃ I : Nat → Fr → Store → Nat → Prop, I = fun μ fr st1 nx1 => ∃ k : Nat, k ≤ ka ∧ μ = ka - k ∧ fr 0 = .fz 2 ka (fun i => eFire (a.getD i dFire)) ∧ fr 1 = .fz 2 kb (fun i => eFire (b.getD i dFire)) ∧ fr 5 = .int .i64 (k : Int) ∧ (st1 = st) ∧ (nx1 = nx) ∧ (∀ i, i < k → a.getD i dFire = b.getD i dFire) := ⟨_, rfl⟩
    refine SRun.loopC I1 (ka - 0) (by subst hI1; refine ⟨0, by omega, rfl, ?_, ?_, ?_, rfl, rfl, fun i h => by omega⟩ <;> first | done | (simp -implicitDefEqProofs only [↓qx, qr, ql, qb, qs1, qs2, qs3, qs4, qs5, nilA, clearA, Value.oneCell', forall_const, guards, idxA, indexVA, lenA, buildA, bsA, sliceA, ↓reduceIte, ne_eq, Nat.reduceAdd, Nat.reduceBNe, Nat.reduceMul, Nat.reduceSub, Int.reduceEq, Int.reduceNe, Int.reduceLT, Int.reduceLE, Int.reduceAdd, Int.reduceMul, Int.reduceSub, Int.reduceNeg, Nat.reduceBEq, Nat.reduceEqDiff, Nat.reduceLT, Nat.reduceLeDiff, Int.reduceToNat, tis, show Try.f20.results = #[Go.ResultVar.tmp 4] from rfl, Int.natCast_zero, tab]; first | done | rfl)) ?_
    intro μ fr st1 nx1 hIn
    have hIn' := hIn
    rw [hI1] at hIn'
    obtain ⟨k, hk, hμ, h0, h1, h5, hsub, hnx, hall⟩ := hIn'
    subst hsub hnx
    refine SRun.run 100 ?_; simp -implicitDefEqProofs only [↓qx, qr, ql, qb, qs1, qs2, qs3, qs4, qs5, nilA, clearA, Value.oneCell', forall_const, guards, idxA, indexVA, lenA, buildA, bsA, sliceA, ↓reduceIte, ne_eq, Nat.reduceAdd, Nat.reduceBNe, Nat.reduceMul, Nat.reduceSub, Int.reduceEq, Int.reduceNe, Int.reduceLT, Int.reduceLE, Int.reduceAdd, Int.reduceMul, Int.reduceSub, Int.reduceNeg, Nat.reduceBEq, Nat.reduceEqDiff, Nat.reduceLT, Nat.reduceLeDiff, Int.reduceToNat, tis, show Try.f20.results = #[Go.ResultVar.tmp 4] from rfl, h0, h1, h5,  tab]
    refine ⟨fun hlt => ?_, fun hge => ?_⟩
    · refine SRun.draw' (.quiet 0 false (.quiet 1 false (.quiet 2 false (.quiet 3 false (.quiet 4 false (.quiet 5 false (.quiet 6 false (.quiet 7 false (.quiet 8 false .done))))))))) mixed (by kernel_rfl) ?_
      simp -implicitDefEqProofs only [↓qx, qr, ql, qb, qs1, qs2, qs3, qs4, qs5, nilA, clearA, Value.oneCell', forall_const, guards, idxA, indexVA, lenA, buildA, bsA, sliceA, ↓reduceIte, ne_eq, Nat.reduceAdd, Nat.reduceBNe, Nat.reduceMul, Nat.reduceSub, Int.reduceEq, Int.reduceNe, Int.reduceLT, Int.reduceLE, Int.reduceAdd, Int.reduceMul, Int.reduceSub, Int.reduceNeg, Nat.reduceBEq, Nat.reduceEqDiff, Nat.reduceLT, Nat.reduceLeDiff, Int.reduceToNat, tis, show Try.f20.results = #[Go.ResultVar.tmp 4] from rfl, h0, h1, h5, tab]
      repeat (with_reducible refine And.intro ?_ ?_; focus (first | omega | (simp; done)))
      by_cases e : a.getD k dFire = b.getD k dFire
      · rw [e]
        refine SRun.run 100 ?_; simp -implicitDefEqProofs only [↓qx, qr, ql, qb, qs1, qs2, qs3, qs4, qs5, nilA, clearA, Value.oneCell', forall_const, guards, idxA, indexVA, lenA, buildA, bsA, sliceA, ↓reduceIte, ne_eq, Nat.reduceAdd, Nat.reduceBNe, Nat.reduceMul, Nat.reduceSub, Int.reduceEq, Int.reduceNe, Int.reduceLT, Int.reduceLE, Int.reduceAdd, Int.reduceMul, Int.reduceSub, Int.reduceNeg, Nat.reduceBEq, Nat.reduceEqDiff, Nat.reduceLT, Nat.reduceLeDiff, Int.reduceToNat, tis, show Try.f20.results = #[Go.ResultVar.tmp 4] from rfl, h0, h1, h5,  tab, eq_self, decide_true, Bool.and_self]
        (try rw [wrap_succ (n := ka) (by omega) (by omega)])
        rw [hI1]
        refine ⟨_, _, _, ConvF.refl _ _ _, ?_⟩
        refine ⟨ka - (k + 1), by omega, k + 1, by omega, rfl, ?_, ?_, ?_, rfl, rfl, fun i hi => by
          by_cases ei : i = k
          · subst ei; exact e
          · exact hall i (by omega)⟩ <;> first | done | (simp -implicitDefEqProofs only [↓qx, qr, ql, qb, qs1, qs2, qs3, qs4, qs5, nilA, clearA, Value.oneCell', forall_const, guards, idxA, indexVA, lenA, buildA, bsA, sliceA, ↓reduceIte, ne_eq, Nat.reduceAdd, Nat.reduceBNe, Nat.reduceMul, Nat.reduceSub, Int.reduceEq, Int.reduceNe, Int.reduceLT, Int.reduceLE, Int.reduceAdd, Int.reduceMul, Int.reduceSub, Int.reduceNeg, Nat.reduceBEq, Nat.reduceEqDiff, Nat.reduceLT, Nat.reduceLeDiff, Int.reduceToNat, tis, show Try.f20.results = #[Go.ResultVar.tmp 4] from rfl, h0, h1, h5, tab]; first | done | rfl)
      · have hb : (decide ((a.getD k dFire).t = (b.getD k dFire).t) && decide ((a.getD k dFire).i = (b.getD k dFire).i)) = false := by
          cases ht : decide ((a.getD k dFire).t = (b.getD k dFire).t)
          · rfl
          · cases hi : decide ((a.getD k dFire).i = (b.getD k dFire).i)
            · rfl
            · exfalso
              apply e
              have h1 := of_decide_eq_true ht
              have h2 := of_decide_eq_true hi
              cases ha : a.getD k dFire
              cases hb : b.getD k dFire
              rw [ha, hb] at h1 h2
              simp only at h1 h2
              rw [h1, h2]
        refine SRun.run 100 ?_; simp -implicitDefEqProofs only [↓qx, qr, ql, qb, qs1, qs2, qs3, qs4, qs5, nilA, clearA, Value.oneCell', forall_const, guards, idxA, indexVA, lenA, buildA, bsA, sliceA, ↓reduceIte, ne_eq, Nat.reduceAdd, Nat.reduceBNe, Nat.reduceMul, Nat.reduceSub, Int.reduceEq, Int.reduceNe, Int.reduceLT, Int.reduceLE, Int.reduceAdd, Int.reduceMul, Int.reduceSub, Int.reduceNeg, Nat.reduceBEq, Nat.reduceEqDiff, Nat.reduceLT, Nat.reduceLeDiff, Int.reduceToNat, tis, show Try.f20.results = #[Go.ResultVar.tmp 4] from rfl, h0, h1, h5,  tab, hb]
        rw [decide_eq_false (fun h => e (h.2 k (by omega)))] at hK
        exact fin_sub (Fw.Sub.refl _) hK
    · rw [decide_eq_true ⟨by omega, fun i hi => hall i (by omega)⟩] at hK
      exact fin_sub (Fw.Sub.refl _) hK
  · rw [decide_eq_false (fun h => h1 (by omega))] at hK
    exact fin_sub (Fw.Sub.refl _) hK
end Go.Proofs.Ytidmngajngemjaa
/- Put, of package mark. -/
namespace Go.Proofs.Ytidmngajngemjaa
set_option linter.all false
open Go Go.Proofs.Ytidmngajngemjaa.Fw
set_option maxRecDepth 100000
set_option maxHeartbeats 4000000
set_option linter.unusedSimpArgs false

end Go.Proofs.Ytidmngajngemjaa
/- The methods of a run, of package plain. -/
namespace Go.Proofs.Ytidmngajngemjaa
set_option linter.all false
open Go Go.Proofs.Ytidmngajngemjaa.Fw
set_option maxRecDepth 100000
set_option maxHeartbeats 4000000
set_option linter.unusedSimpArgs false

end Go.Proofs.Ytidmngajngemjaa
/- fire, of package plain. -/
namespace Go.Proofs.Ytidmngajngemjaa
set_option linter.all false
open Go Go.Proofs.Ytidmngajngemjaa.Fw
set_option maxRecDepth 100000
set_option maxHeartbeats 4000000
set_option linter.unusedSimpArgs false

/-- A run in the store. -/
structure RAt (rest : Store) (base : Nat) (n : Net) (xb mk wy lg wt ina : Nat) (S : RS) (st : Store) (nx : Nat) : Prop where
  ids : (base ≤ xb ∧ base ≤ mk ∧ base ≤ wy ∧ base ≤ lg ∧ base ≤ wt ∧ base ≤ ina) ∧ (xb < nx ∧ mk < nx ∧ wy < nx ∧ lg < nx ∧ wt < nx ∧ ina < nx)
  ne : Dist xb mk wy lg wt ina
  box : st xb = some (.box [tab 2 ePlace dPlace n.places, aTranss n.trans, .sl lg 0 S.log.length, .sl mk 0 n.places.length, .sl wy 0 n.places.length, .int .i64 S.time, .sl wt 0 S.wait.length, .sl ina 0 n.trans.length])
  log : st lg = some (rFires S.log)
  marks : st mk = some (.row 1 n.places.length (fun i => eInt (S.marks.getD i 0)))
  way : st wy = some (.row 1 n.places.length (fun i => eInt (S.way.getD i 0)))
  wait : st wt = some (rEvs S.wait)
  inn : st ina = some (.row 1 n.trans.length (fun i => eInt (S.inn.getD i 0)))
  sub : Fw.Sub rest st
end Go.Proofs.Ytidmngajngemjaa
/- instant, of package plain. -/
namespace Go.Proofs.Ytidmngajngemjaa
set_option linter.all false
open Go Go.Proofs.Ytidmngajngemjaa.Fw
set_option maxRecDepth 100000
set_option maxHeartbeats 4000000
set_option linter.unusedSimpArgs false

/-- A run in the store, at a time's beginning. -/
structure RAt0 (rest : Store) (base : Nat) (n : Net) (xb mk wy lg wt : Nat) (vin : AV) (S : RS) (st : Store) (nx : Nat) : Prop where
  ids : (base ≤ xb ∧ base ≤ mk ∧ base ≤ wy ∧ base ≤ lg ∧ base ≤ wt) ∧ (xb < nx ∧ mk < nx ∧ wy < nx ∧ lg < nx ∧ wt < nx)
  ne : ∀ x, xb < x → mk < x → wy < x → lg < x → wt < x → Dist xb mk wy lg wt x
  box : st xb = some (.box [tab 2 ePlace dPlace n.places, aTranss n.trans, .sl lg 0 S.log.length, .sl mk 0 n.places.length, .sl wy 0 n.places.length, .int .i64 S.time, .sl wt 0 S.wait.length, vin])
  log : st lg = some (rFires S.log)
  marks : st mk = some (.row 1 n.places.length (fun i => eInt (S.marks.getD i 0)))
  way : st wy = some (.row 1 n.places.length (fun i => eInt (S.way.getD i 0)))
  wait : st wt = some (rEvs S.wait)
  sub : Fw.Sub rest st
end Go.Proofs.Ytidmngajngemjaa
/- Run, of package plain. -/
namespace Go.Proofs.Ytidmngajngemjaa
set_option linter.all false
open Go Go.Proofs.Ytidmngajngemjaa.Fw
set_option maxRecDepth 100000
set_option maxHeartbeats 4000000
set_option linter.unusedSimpArgs false

abbrev boxR (n : Net) (lg mk wy wt : Nat) (S : RS) (t : Int) (vin : AV) : Ob := .box [tab 2 ePlace dPlace n.places, aTranss n.trans, .sl lg 0 S.log.length, .sl mk 0 n.places.length, .sl wy 0 n.places.length, .int .i64 t, .sl wt 0 S.wait.length, vin]
end Go.Proofs.Ytidmngajngemjaa
/- Package marblerunlaw09: awake. -/
namespace Go.Proofs.Ytidmngajngemjaa
set_option linter.all false
open Go Go.Proofs.Ytidmngajngemjaa.Fw
set_option maxRecDepth 100000
set_option maxHeartbeats 4000000
set_option linter.unusedSimpArgs false

def awR : Net := ⟨[⟨⟨#[112]⟩, 1⟩], [⟨⟨#[116]⟩, 2, 0, [⟨0, 1⟩], [], [⟨0, 1⟩]⟩]⟩
end Go.Proofs.Ytidmngajngemjaa
/- Package marblerunlaw09: few and awake; what the laws begin with. -/
namespace Go.Proofs.Ytidmngajngemjaa
set_option linter.all false
open Go Go.Proofs.Ytidmngajngemjaa.Fw
set_option maxRecDepth 100000
set_option maxHeartbeats 4000000
set_option linter.unusedSimpArgs false

theorem makeN_netL (d : Draft) : NetL (makeN d) := by
  have hM := mkM_le d
  have hP := makeN_places d
  have hT := makeN_trans d
  refine ⟨by omega, by omega, fun t ht => ?_, fun s hs => ?_⟩
  · simp only [makeN, List.mem_map, List.mem_range] at ht
    obtain ⟨j, hj, rfl⟩ := ht
    have h1 := tIn_len (mkM d) (gA d j)
    have h2 := tNot_len (mkM d) (gA d j)
    have h3 := tOut_len (mkM d) (gA d j)
    simp only [mkTr]; omega
  · simp only [namesL, makeN, List.mem_append, List.mem_map, List.mem_range, List.map_map, Function.comp] at hs
    rcases hs with ⟨i, _, rfl⟩ | ⟨i, _, rfl⟩
    · show (2 : Nat) ≤ 9223372036854775807; omega
    · show (4 : Nat) ≤ 9223372036854775807; omega
end Go.Proofs.Ytidmngajngemjaa
/- JudgeReplays. -/
namespace Go.Proofs.Ytidmngajngemjaa
set_option linter.all false
open Go Go.Proofs.Ytidmngajngemjaa.Fw
set_option maxRecDepth 100000
set_option maxHeartbeats 4000000
set_option linter.unusedSimpArgs false

theorem rowset_t {l : List Fire} {n i : Nat} {v : Fire} (hn : l.length = n) (h : i < n) : ∀ j, (if j = i then eFire v else eFire (l.getD j dFire)) = eFire ((l.set i v).getD j dFire) := fun j => by
  by_cases e : j = i
  · subst e; rw [if_pos rfl, List.getD_eq_getElem?_getD, List.getElem?_set_self (by omega)]; rfl
  · rw [if_neg e, List.getD_eq_getElem?_getD, List.getD_eq_getElem?_getD, List.getElem?_set_ne (Ne.symm e)]
theorem fire_ne {f g : Fire} (h : f ≠ g) : (decide (f.t = g.t) && decide (f.i = g.i)) = false := by
  cases h1 : decide (f.t = g.t)
  · rfl
  · cases h2 : decide (f.i = g.i)
    · rfl
    · exfalso
      apply h
      have e1 := of_decide_eq_true h1
      have e2 := of_decide_eq_true h2
      cases f; cases g
      simp only at e1 e2
      rw [e1, e2]
theorem replays_ok (d : Draft) (hz ha : Int) (f : Fire) (st : Store) (nx : Nat) (K : AV → Store → Nat → Prop) (hd : okDraft d) (hh : 0 ≤ hz ∧ hz < 256) (hha : 0 ≤ ha ∧ ha < 256) (hK : ∀ nx', nx ≤ nx' → K (.bool true) st nx') : SCall Try.prog 3 [.agg (eDraft d), .int .u8 hz, .int .u8 ha, .agg (eFire f)] st nx K := by
  have hm0 := Int.tmod_nonneg (25 : Int) hh.1
  have hm1 := Int.tmod_lt_of_pos hz (show (0 : Int) < 25 by omega)
  obtain ⟨h, hm⟩ : ∃ h, hz.tmod 25 = h := ⟨_, rfl⟩
  rw [hm] at hm0 hm1
  have hw : IntKind.i64.wrap h = h := wrap_of (by omega) (by omega)
  have hwa : IntKind.i64.wrap ha = ha := wrap_of (by omega) (by omega)
  refine SCall.enter' 164 Try.func3 rfl (by kernel_rfl) rfl (Nat.le_of_ble_eq_true rfl) ?_
  intro hfin
  have hsub := Fw.Sub.refl st
  refine SRun.run 100 ?_; simp -implicitDefEqProofs only [↓qx, qr, ql, qb, qs1, qs2, qs3, qs4, qs5, nilA, clearA, Value.oneCell', forall_const, guards, idxA, indexVA, lenA, buildA, bsA, sliceA, ↓reduceIte, ne_eq, Nat.reduceAdd, Nat.reduceBNe, Nat.reduceMul, Nat.reduceSub, Int.reduceEq, Int.reduceNe, Int.reduceLT, Int.reduceLE, Int.reduceAdd, Int.reduceMul, Int.reduceSub, Int.reduceNeg, Nat.reduceBEq, Nat.reduceEqDiff, Nat.reduceLT, Nat.reduceLeDiff, Int.reduceToNat, tis, show Try.f3.results = #[Go.ResultVar.tmp 8] from rfl,  tab]
  refine awake23_ok _ _ _ fun b hb => ?_
  have lt_0 : nx < b := by omega
  have lt_1 : nx + 1 < b := by omega
  refine SRun.run 100 ?_; simp -implicitDefEqProofs only [↓qx, qr, ql, qb, qs1, qs2, qs3, qs4, qs5, nilA, clearA, Value.oneCell', forall_const, guards, idxA, indexVA, lenA, buildA, bsA, sliceA, ↓reduceIte, ne_eq, Nat.reduceAdd, Nat.reduceBNe, Nat.reduceMul, Nat.reduceSub, Int.reduceEq, Int.reduceNe, Int.reduceLT, Int.reduceLE, Int.reduceAdd, Int.reduceMul, Int.reduceSub, Int.reduceNeg, Nat.reduceBEq, Nat.reduceEqDiff, Nat.reduceLT, Nat.reduceLeDiff, Int.reduceToNat, tis, show Try.f3.results = #[Go.ResultVar.tmp 8] from rfl, lt_0, lt_1,  tab]
  refine few23_ok d _ _ _ fun b0 hb0 => ?_
  have lt_2 : nx < b0 := by omega
  have lt_3 : nx + 1 < b0 := by omega
  by_cases hfew : d.tokens.length ≤ 60 ∧ d.acts.length ≤ 12
  case neg =>
    rw [decide_eq_false hfew]
    refine SRun.run 100 ?_; simp -implicitDefEqProofs only [↓qx, qr, ql, qb, qs1, qs2, qs3, qs4, qs5, nilA, clearA, Value.oneCell', forall_const, guards, idxA, indexVA, lenA, buildA, bsA, sliceA, ↓reduceIte, ne_eq, Nat.reduceAdd, Nat.reduceBNe, Nat.reduceMul, Nat.reduceSub, Int.reduceEq, Int.reduceNe, Int.reduceLT, Int.reduceLE, Int.reduceAdd, Int.reduceMul, Int.reduceSub, Int.reduceNeg, Nat.reduceBEq, Nat.reduceEqDiff, Nat.reduceLT, Nat.reduceLeDiff, Int.reduceToNat, tis, show Try.f3.results = #[Go.ResultVar.tmp 8] from rfl, lt_0, lt_1, lt_2, lt_3,  tab]
    refine awake23_ok _ _ _ fun b3 hb3 => ?_
    refine SRun.run 100 ?_; simp -implicitDefEqProofs only [↓qx, qr, ql, qb, qs1, qs2, qs3, qs4, qs5, nilA, clearA, Value.oneCell', forall_const, guards, idxA, indexVA, lenA, buildA, bsA, sliceA, ↓reduceIte, ne_eq, Nat.reduceAdd, Nat.reduceBNe, Nat.reduceMul, Nat.reduceSub, Int.reduceEq, Int.reduceNe, Int.reduceLT, Int.reduceLE, Int.reduceAdd, Int.reduceMul, Int.reduceSub, Int.reduceNeg, Nat.reduceBEq, Nat.reduceEqDiff, Nat.reduceLT, Nat.reduceLeDiff, Int.reduceToNat, tis, show Try.f3.results = #[Go.ResultVar.tmp 8] from rfl, lt_0, lt_1, lt_2, lt_3,  tab]
    refine fin_sub (by repeat first | exact hsub | refine Sub.new ?_ (hfin _ (by omega)) | refine Sub.del ?_ (hfin _ (by omega)) | refine Sub.tag ?_ (hfin _ (by omega)) (hfin _ (by omega)) (fun p hp => hfin p (by first | (simp only [List.not_mem_nil] at hp; done) | (simp only [List.mem_cons, List.not_mem_nil, or_false] at hp; omega)))) (hK _ ?_)
    omega
  rw [decide_eq_true hfew]
  refine SRun.run 100 ?_; simp -implicitDefEqProofs only [↓qx, qr, ql, qb, qs1, qs2, qs3, qs4, qs5, nilA, clearA, Value.oneCell', forall_const, guards, idxA, indexVA, lenA, buildA, bsA, sliceA, ↓reduceIte, ne_eq, Nat.reduceAdd, Nat.reduceBNe, Nat.reduceMul, Nat.reduceSub, Int.reduceEq, Int.reduceNe, Int.reduceLT, Int.reduceLE, Int.reduceAdd, Int.reduceMul, Int.reduceSub, Int.reduceNeg, Nat.reduceBEq, Nat.reduceEqDiff, Nat.reduceLT, Nat.reduceLeDiff, Int.reduceToNat, tis, show Try.f3.results = #[Go.ResultVar.tmp 8] from rfl, lt_0, lt_1, lt_2, lt_3,  tab]
  refine make_ok d _ _ _ (by omega) fun b2 hb2 => ?_
  have lt_4 : nx < b2 := by omega
  have lt_5 : nx + 1 < b2 := by omega
  have hP := makeN_places d
  have hTn := makeN_trans d
  have hM := mkM_le d
  have hM1 := mkM_pos d
  have hchk := makeN_check d hd
  have hNL := makeN_netL d
  obtain ⟨N, hN⟩ : ∃ N, N = makeN d := ⟨_, rfl⟩
  rw [← hN] at hP hTn hchk hNL ⊢
  have hG := check_good hchk
  have hA := check_apart hchk
  refine SRun.run 100 ?_; simp -implicitDefEqProofs only [↓qx, qr, ql, qb, qs1, qs2, qs3, qs4, qs5, nilA, clearA, Value.oneCell', forall_const, guards, idxA, indexVA, lenA, buildA, bsA, sliceA, ↓reduceIte, ne_eq, Nat.reduceAdd, Nat.reduceBNe, Nat.reduceMul, Nat.reduceSub, Int.reduceEq, Int.reduceNe, Int.reduceLT, Int.reduceLE, Int.reduceAdd, Int.reduceMul, Int.reduceSub, Int.reduceNeg, Nat.reduceBEq, Nat.reduceEqDiff, Nat.reduceLT, Nat.reduceLeDiff, Int.reduceToNat, tis, show Try.f3.results = #[Go.ResultVar.tmp 8] from rfl, lt_0, lt_1, lt_2, lt_3, lt_4, lt_5,  tab, hm, hw]
  refine rrun_ok N h _ _ _ hchk (by omega) fun b4 hb4 => ?_
  have hlg := plainV_log hG h
  have hlen := plainV_len hG h
  have hmg := (plainV_mg hG hA hm0).1
  obtain ⟨J, hj1, hj2, hj3, hj4⟩ := plainV_jr hG h
  obtain ⟨R, hR⟩ : ∃ R, plainV N h = R := ⟨_, rfl⟩
  rw [hR] at hlg hlen hmg hj1 hj2 hj3 hj4 ⊢
  have lt_6 : nx < b4 := by omega
  have lt_7 : nx + 1 < b4 := by omega
  have lt_8 : b2 < b4 := by omega
  refine SRun.run 100 ?_; simp -implicitDefEqProofs only [↓qx, qr, ql, qb, qs1, qs2, qs3, qs4, qs5, nilA, clearA, Value.oneCell', forall_const, guards, idxA, indexVA, lenA, buildA, bsA, sliceA, ↓reduceIte, ne_eq, Nat.reduceAdd, Nat.reduceBNe, Nat.reduceMul, Nat.reduceSub, Int.reduceEq, Int.reduceNe, Int.reduceLT, Int.reduceLE, Int.reduceAdd, Int.reduceMul, Int.reduceSub, Int.reduceNeg, Nat.reduceBEq, Nat.reduceEqDiff, Nat.reduceLT, Nat.reduceLeDiff, Int.reduceToNat, tis, show Try.f3.results = #[Go.ResultVar.tmp 8] from rfl, lt_0, lt_1, lt_2, lt_3, lt_4, lt_5, lt_6, lt_7, lt_8,  tab, hm, hw]
  refine replay_ok N R.1.log _ _ _ hNL (by omega) (fun b5 hb5 hz => absurd hchk hz) (fun k b5 hb5 _ hq => by rw [hj1] at hq; cases hq) fun b5 hb5 _ _ => ?_
  rw [hj1]
  unfold resJ
  have lt_9 : nx < b5 := by omega
  have lt_10 : nx + 1 < b5 := by omega
  have lt_11 : b2 < b5 := by omega
  have lt_12 : b4 < b5 := by omega
  refine SRun.run 100 ?_; simp -implicitDefEqProofs only [↓qx, qr, ql, qb, qs1, qs2, qs3, qs4, qs5, nilA, clearA, Value.oneCell', forall_const, guards, idxA, indexVA, lenA, buildA, bsA, sliceA, ↓reduceIte, ne_eq, Nat.reduceAdd, Nat.reduceBNe, Nat.reduceMul, Nat.reduceSub, Int.reduceEq, Int.reduceNe, Int.reduceLT, Int.reduceLE, Int.reduceAdd, Int.reduceMul, Int.reduceSub, Int.reduceNeg, Nat.reduceBEq, Nat.reduceEqDiff, Nat.reduceLT, Nat.reduceLeDiff, Int.reduceToNat, tis, show Try.f3.results = #[Go.ResultVar.tmp 8] from rfl, lt_0, lt_1, lt_2, lt_3, lt_4, lt_5, lt_6, lt_7, lt_8, lt_9, lt_10, lt_11, lt_12,  tab]
  refine samelog_ok R.1.log R.1.log R.1.log.length R.1.log.length _ _ _ (by omega) ?_
  rw [decide_eq_true ⟨rfl, fun _ _ => rfl⟩]
  have hin : R.1.marks.length = N.places.length := hlen.1
  have hiw : R.1.way.length = N.places.length := hlen.2
  obtain ⟨P, hPP⟩ : ∃ P, N.places.length = P := ⟨_, rfl⟩
  rw [hPP] at hin hiw hP
  by_cases c1 : R.2 = 0
  case neg =>
    refine SRun.run 27 ?_; simp -implicitDefEqProofs only [↓qx, qr, ql, qb, qs1, qs2, qs3, qs4, qs5, nilA, clearA, Value.oneCell', forall_const, guards, idxA, indexVA, lenA, buildA, bsA, sliceA, ↓reduceIte, ne_eq, Nat.reduceAdd, Nat.reduceBNe, Nat.reduceMul, Nat.reduceSub, Int.reduceEq, Int.reduceNe, Int.reduceLT, Int.reduceLE, Int.reduceAdd, Int.reduceMul, Int.reduceSub, Int.reduceNeg, Nat.reduceBEq, Nat.reduceEqDiff, Nat.reduceLT, Nat.reduceLeDiff, Int.reduceToNat, tis, show Try.f3.results = #[Go.ResultVar.tmp 8] from rfl, lt_0, lt_1, lt_2, lt_3, lt_4, lt_5, lt_6, lt_7, lt_8, lt_9, lt_10, lt_11, lt_12,  tab, c1]
    refine SRun.gen (fun fr st1 nx1 => fr 2 = .int .u8 ha ∧ fr 7 = .bp (nx + 1) 0 ∧ fr 9 = .bp b2 0 ∧ fr 10 = .bp b4 0 ∧ (st1 (nx + 1) = some (.box (eFire f))) ∧ (st1 b2 = some (.box (eNet N))) ∧ (st1 b4 = some (.box [aFires R.1.log, aInts R.1.marks, aInts R.1.way, .int .i64 R.1.time])) ∧ (Fw.Sub st st1) ∧ (b4 < nx1)) (by refine ⟨_, _, _, ConvF.refl _ _ _, ?_⟩; refine ⟨?_, ?_, ?_, ?_, by simp -implicitDefEqProofs only [↓qx, qr, ql, qb, qs1, qs2, qs3, qs4, qs5, nilA, clearA, Value.oneCell', forall_const, guards, idxA, indexVA, lenA, buildA, bsA, sliceA, ↓reduceIte, ne_eq, Nat.reduceAdd, Nat.reduceBNe, Nat.reduceMul, Nat.reduceSub, Int.reduceEq, Int.reduceNe, Int.reduceLT, Int.reduceLE, Int.reduceAdd, Int.reduceMul, Int.reduceSub, Int.reduceNeg, Nat.reduceBEq, Nat.reduceEqDiff, Nat.reduceLT, Nat.reduceLeDiff, Int.reduceToNat, tis, show Try.f3.results = #[Go.ResultVar.tmp 8] from rfl, lt_0, lt_1, lt_2, lt_3, lt_4, lt_5, lt_6, lt_7, lt_8, lt_9, lt_10, lt_11, lt_12], by simp -implicitDefEqProofs only [↓qx, qr, ql, qb, qs1, qs2, qs3, qs4, qs5, nilA, clearA, Value.oneCell', forall_const, guards, idxA, indexVA, lenA, buildA, bsA, sliceA, ↓reduceIte, ne_eq, Nat.reduceAdd, Nat.reduceBNe, Nat.reduceMul, Nat.reduceSub, Int.reduceEq, Int.reduceNe, Int.reduceLT, Int.reduceLE, Int.reduceAdd, Int.reduceMul, Int.reduceSub, Int.reduceNeg, Nat.reduceBEq, Nat.reduceEqDiff, Nat.reduceLT, Nat.reduceLeDiff, Int.reduceToNat, tis, show Try.f3.results = #[Go.ResultVar.tmp 8] from rfl, lt_0, lt_1, lt_2, lt_3, lt_4, lt_5, lt_6, lt_7, lt_8, lt_9, lt_10, lt_11, lt_12], (by simp -implicitDefEqProofs only [↓qx, qr, ql, qb, qs1, qs2, qs3, qs4, qs5, nilA, clearA, Value.oneCell', forall_const, guards, idxA, indexVA, lenA, buildA, bsA, sliceA, ↓reduceIte, ne_eq, Nat.reduceAdd, Nat.reduceBNe, Nat.reduceMul, Nat.reduceSub, Int.reduceEq, Int.reduceNe, Int.reduceLT, Int.reduceLE, Int.reduceAdd, Int.reduceMul, Int.reduceSub, Int.reduceNeg, Nat.reduceBEq, Nat.reduceEqDiff, Nat.reduceLT, Nat.reduceLeDiff, Int.reduceToNat, tis, show Try.f3.results = #[Go.ResultVar.tmp 8] from rfl, lt_0, lt_1, lt_2, lt_3, lt_4, lt_5, lt_6, lt_7, lt_8, lt_9, lt_10, lt_11, lt_12]; first | done | rfl), (by repeat first | exact hsub | refine Sub.new ?_ (hfin _ (by omega)) | refine Sub.del ?_ (hfin _ (by omega)) | refine Sub.tag ?_ (hfin _ (by omega)) (hfin _ (by omega)) (fun p hp => hfin p (by first | (simp only [List.not_mem_nil] at hp; done) | (simp only [List.mem_cons, List.not_mem_nil, or_false] at hp; omega)))), (by omega)⟩ <;> first | done | (simp -implicitDefEqProofs only [↓qx, qr, ql, qb, qs1, qs2, qs3, qs4, qs5, nilA, clearA, Value.oneCell', forall_const, guards, idxA, indexVA, lenA, buildA, bsA, sliceA, ↓reduceIte, ne_eq, Nat.reduceAdd, Nat.reduceBNe, Nat.reduceMul, Nat.reduceSub, Int.reduceEq, Int.reduceNe, Int.reduceLT, Int.reduceLE, Int.reduceAdd, Int.reduceMul, Int.reduceSub, Int.reduceNeg, Nat.reduceBEq, Nat.reduceEqDiff, Nat.reduceLT, Nat.reduceLeDiff, Int.reduceToNat, tis, show Try.f3.results = #[Go.ResultVar.tmp 8] from rfl, lt_0, lt_1, lt_2, lt_3, lt_4, lt_5, lt_6, lt_7, lt_8, lt_9, lt_10, lt_11, lt_12, tab]; first | done | rfl)) ?_
    intro fr st1 nx1 hJ
    obtain ⟨h2, h7, h9, h10, hf0, hbN, hbR, hsub, hnx⟩ := hJ
    obtain ⟨S2, hS2⟩ : ∃ S2, S2 = ((st.set (nx + 1) (.box (eFire f))).set b2 (.box (eNet N))).set b4 (.box [aFires R.1.log, aInts R.1.marks, aInts R.1.way, .int .i64 R.1.time]) := ⟨_, rfl⟩
    have hc2 : Fw.Sub S2 st1 := by rw [hS2]; exact sub_with (sub_with (sub_with hsub hf0) hbN) hbR
    have hst : Fw.Sub st S2 := by rw [hS2]; exact Fw.Sub.new (Fw.Sub.new (Fw.Sub.new (Fw.Sub.refl st) (hfin _ (by omega))) (hfin _ (by omega))) (hfin _ (by omega))
    have hf2 : ∀ id, b4 + 1 ≤ id → S2 id = none := fun id hid => by rw [hS2, Store.get_set_ne (by omega), Store.get_set_ne (by omega), Store.get_set_ne (by omega)]; exact hfin _ (by omega)
    have hf0 : S2 (nx + 1) = some (.box (eFire f)) := hS2 ▸ (by rw [Store.get_set_ne (by omega), Store.get_set_ne (by omega), Store.get_set_same])
    have hbN : S2 b2 = some (.box (eNet N)) := hS2 ▸ (by rw [Store.get_set_ne (by omega), Store.get_set_same])
    have hbR : S2 b4 = some (.box [aFires R.1.log, aInts R.1.marks, aInts R.1.way, .int .i64 R.1.time]) := hS2 ▸ (by rw [Store.get_set_same])
    refine SRun.conv (ConvF.sub hc2) ?_
    clear hS2 hc2
    have hsub := Fw.Sub.refl S2
    have hfin := hf2
    obtain ⟨u, hu⟩ : ∃ u, u = nx1 := ⟨_, rfl⟩
    rw [← hu] at hnx ⊢
    clear hu
    have lt_13 : nx + 1 < u := by omega
    have lt_14 : b2 < u := by omega
    have lt_15 : b4 < u := by omega
    
    by_cases c7 : R.1.log.length = 0
    · have c8 : (R.1.log.length : Int) = 0 := by omega
      refine SRun.run 100 ?_; simp -implicitDefEqProofs only [↓qx, qr, ql, qb, qs1, qs2, qs3, qs4, qs5, nilA, clearA, Value.oneCell', forall_const, guards, idxA, indexVA, lenA, buildA, bsA, sliceA, ↓reduceIte, ne_eq, Nat.reduceAdd, Nat.reduceBNe, Nat.reduceMul, Nat.reduceSub, Int.reduceEq, Int.reduceNe, Int.reduceLT, Int.reduceLE, Int.reduceAdd, Int.reduceMul, Int.reduceSub, Int.reduceNeg, Nat.reduceBEq, Nat.reduceEqDiff, Nat.reduceLT, Nat.reduceLeDiff, Int.reduceToNat, tis, show Try.f3.results = #[Go.ResultVar.tmp 8] from rfl, h2, h7, h9, h10, lt_13, lt_14, lt_15, hf0, hbN, hbR,  tab, c8]
      refine fin_sub hst (hK _ ?_)
      omega
    have c8 : ¬ (R.1.log.length : Int) = 0 := by omega
    have q0 := Int.tmod_nonneg (R.1.log.length : Int) hha.1
    have q1 := Int.tmod_lt_of_pos ha (show (0 : Int) < (R.1.log.length : Int) by omega)
    obtain ⟨i, hi⟩ : ∃ i : Nat, ha.tmod (R.1.log.length : Int) = (i : Int) := ⟨(ha.tmod (R.1.log.length : Int)).toNat, by omega⟩
    rw [hi] at q1
    have hil : i < R.1.log.length := by omega
    refine SRun.run 100 ?_; simp -implicitDefEqProofs only [↓qx, qr, ql, qb, qs1, qs2, qs3, qs4, qs5, nilA, clearA, Value.oneCell', forall_const, guards, idxA, indexVA, lenA, buildA, bsA, sliceA, ↓reduceIte, ne_eq, Nat.reduceAdd, Nat.reduceBNe, Nat.reduceMul, Nat.reduceSub, Int.reduceEq, Int.reduceNe, Int.reduceLT, Int.reduceLE, Int.reduceAdd, Int.reduceMul, Int.reduceSub, Int.reduceNeg, Nat.reduceBEq, Nat.reduceEqDiff, Nat.reduceLT, Nat.reduceLeDiff, Int.reduceToNat, tis, show Try.f3.results = #[Go.ResultVar.tmp 8] from rfl, h2, h7, h9, h10, lt_13, lt_14, lt_15, hf0, hbN, hbR,  tab, c8, hwa, hi]
    repeat (with_reducible refine And.intro ?_ ?_; focus (first | omega | (simp; done)))
    have hj := jrun_set hj1 hil f
    have hself : R.1.log.set i (R.1.log.getD i dFire) = R.1.log := by rw [List.getD_eq_getElem?_getD, List.getElem?_eq_getElem hil]; exact List.set_getElem_self hil
    obtain ⟨g, hg⟩ : ∃ g, R.1.log.getD i dFire = g := ⟨_, rfl⟩
    rw [hg] at hj hself
    have hsl : (R.1.log.set i f).length = R.1.log.length := List.length_set
    refine SCall.turn (st' := S2) ?_ (args' := [.agg (eNet N), aFires (R.1.log.set i f)]) (TnL.cons (Tn.same ?_ _) (TnL.cons (row_lt (enc := eFire) (d := dFire) (R.1.log.set i f) hsl (by repeat first | exact hsub | refine Sub.new ?_ (hfin _ (by omega)) | refine Sub.del ?_ (hfin _ (by omega)) | refine Sub.tag ?_ (hfin _ (by omega)) (hfin _ (by omega)) (fun p hp => hfin p (by first | (simp only [List.not_mem_nil] at hp; done) | (simp only [List.mem_cons, List.not_mem_nil, or_false] at hp; omega)))) (by exact Store.get_set_same _ _ _) (hfin u (by omega)) (fun j hj => ?_) (fun _ => rfl)) TnL.nil)) (replay_ok N (R.1.log.set i f) _ _ _ hNL (by omega) (fun b6 hb6 hz => absurd hchk hz) (fun k b6 hb6 _ hq => ?_) fun b6 hb6 _ hq => ?_)
    · exact (by repeat first | exact hsub | refine Sub.new ?_ (hfin _ (by omega)) | refine Sub.del ?_ (hfin _ (by omega)) | refine Sub.tag ?_ (hfin _ (by omega)) (hfin _ (by omega)) (fun p hp => hfin p (by first | (simp only [List.not_mem_nil] at hp; done) | (simp only [List.mem_cons, List.not_mem_nil, or_false] at hp; omega))))
    · exact (by repeat first | exact hsub | refine Sub.new ?_ (hfin _ (by omega)) | refine Sub.del ?_ (hfin _ (by omega)) | refine Sub.tag ?_ (hfin _ (by omega)) (hfin _ (by omega)) (fun p hp => hfin p (by first | (simp only [List.not_mem_nil] at hp; done) | (simp only [List.mem_cons, List.not_mem_nil, or_false] at hp; omega))))
    · rw [← rowset_t rfl hil j]
      by_cases e : j = i
      · subst e
        simp only [if_true]
        exact TnL.same (sub_del_of (by repeat first | exact hsub | refine Sub.new ?_ (hfin _ (by omega)) | refine Sub.del ?_ (hfin _ (by omega)) | refine Sub.tag ?_ (hfin _ (by omega)) (hfin _ (by omega)) (fun p hp => hfin p (by first | (simp only [List.not_mem_nil] at hp; done) | (simp only [List.mem_cons, List.not_mem_nil, or_false] at hp; omega)))) (hfin _ (by omega))) _
      · simp only [e, if_false]
        exact TnL.same (sub_del_of (by repeat first | exact hsub | refine Sub.new ?_ (hfin _ (by omega)) | refine Sub.del ?_ (hfin _ (by omega)) | refine Sub.tag ?_ (hfin _ (by omega)) (hfin _ (by omega)) (fun p hp => hfin p (by first | (simp only [List.not_mem_nil] at hp; done) | (simp only [List.mem_cons, List.not_mem_nil, or_false] at hp; omega)))) (hfin _ (by omega))) _
    · have hki := hj.2 k hq
      have hne : f ≠ g := fun e => by rw [e, hself, hj1] at hq; cases hq
      have hb : (decide (f.t = g.t) && decide (f.i = g.i)) = false := fire_ne hne
      have lt_16 : nx + 1 < b6 := by omega
      have lt_17 : b2 < b6 := by omega
      have lt_18 : b4 < b6 := by omega
      have lt_19 : u < b6 := by omega
      refine SRun.run 100 ?_; simp -implicitDefEqProofs only [↓qx, qr, ql, qb, qs1, qs2, qs3, qs4, qs5, nilA, clearA, Value.oneCell', forall_const, guards, idxA, indexVA, lenA, buildA, bsA, sliceA, ↓reduceIte, ne_eq, Nat.reduceAdd, Nat.reduceBNe, Nat.reduceMul, Nat.reduceSub, Int.reduceEq, Int.reduceNe, Int.reduceLT, Int.reduceLE, Int.reduceAdd, Int.reduceMul, Int.reduceSub, Int.reduceNeg, Nat.reduceBEq, Nat.reduceEqDiff, Nat.reduceLT, Nat.reduceLeDiff, Int.reduceToNat, tis, show Try.f3.results = #[Go.ResultVar.tmp 8] from rfl, h2, h7, h9, h10, lt_13, lt_14, lt_15, hf0, hbN, hbR, lt_16, lt_17, lt_18, lt_19,  tab]
      refine SRun.draw' (.quiet 0 false (.quiet 1 false (.quiet 2 false (.quiet 3 false (.quiet 4 false (.quiet 5 false (.quiet 6 false .done))))))) mixed (by kernel_rfl) ?_
      simp -implicitDefEqProofs only [↓qx, qr, ql, qb, qs1, qs2, qs3, qs4, qs5, nilA, clearA, Value.oneCell', forall_const, guards, idxA, indexVA, lenA, buildA, bsA, sliceA, ↓reduceIte, ne_eq, Nat.reduceAdd, Nat.reduceBNe, Nat.reduceMul, Nat.reduceSub, Int.reduceEq, Int.reduceNe, Int.reduceLT, Int.reduceLE, Int.reduceAdd, Int.reduceMul, Int.reduceSub, Int.reduceNeg, Nat.reduceBEq, Nat.reduceEqDiff, Nat.reduceLT, Nat.reduceLeDiff, Int.reduceToNat, tis, show Try.f3.results = #[Go.ResultVar.tmp 8] from rfl, h2, h7, h9, h10, lt_13, lt_14, lt_15, hf0, hbN, hbR, lt_16, lt_17, lt_18, lt_19, tab, hg, hb]
      repeat (with_reducible refine And.intro ?_ ?_; focus (first | omega | (simp; done)))
      refine SRun.run 100 ?_; simp -implicitDefEqProofs only [↓qx, qr, ql, qb, qs1, qs2, qs3, qs4, qs5, nilA, clearA, Value.oneCell', forall_const, guards, idxA, indexVA, lenA, buildA, bsA, sliceA, ↓reduceIte, ne_eq, Nat.reduceAdd, Nat.reduceBNe, Nat.reduceMul, Nat.reduceSub, Int.reduceEq, Int.reduceNe, Int.reduceLT, Int.reduceLE, Int.reduceAdd, Int.reduceMul, Int.reduceSub, Int.reduceNeg, Nat.reduceBEq, Nat.reduceEqDiff, Nat.reduceLT, Nat.reduceLeDiff, Int.reduceToNat, tis, show Try.f3.results = #[Go.ResultVar.tmp 8] from rfl, h2, h7, h9, h10, lt_13, lt_14, lt_15, hf0, hbN, hbR, lt_16, lt_17, lt_18, lt_19,  tab, hb]
      by_cases ht : f.t = g.t
      · have hk3 := hj.1 ht hne
        rw [hq] at hk3
        injection hk3 with hk3
        subst hk3
        refine SRun.draw' (.quiet 0 false (.quiet 1 false (.quiet 2 false (.quiet 3 false (.quiet 4 false (.quiet 5 false (.quiet 6 false (.quiet 7 false (.quiet 8 false .done))))))))) mixed (by kernel_rfl) ?_
        simp -implicitDefEqProofs only [↓qx, qr, ql, qb, qs1, qs2, qs3, qs4, qs5, nilA, clearA, Value.oneCell', forall_const, guards, idxA, indexVA, lenA, buildA, bsA, sliceA, ↓reduceIte, ne_eq, Nat.reduceAdd, Nat.reduceBNe, Nat.reduceMul, Nat.reduceSub, Int.reduceEq, Int.reduceNe, Int.reduceLT, Int.reduceLE, Int.reduceAdd, Int.reduceMul, Int.reduceSub, Int.reduceNeg, Nat.reduceBEq, Nat.reduceEqDiff, Nat.reduceLT, Nat.reduceLeDiff, Int.reduceToNat, tis, show Try.f3.results = #[Go.ResultVar.tmp 8] from rfl, h2, h7, h9, h10, lt_13, lt_14, lt_15, hf0, hbN, hbR, lt_16, lt_17, lt_18, lt_19, tab, hg, ht]
        repeat (with_reducible refine And.intro ?_ ?_; focus (first | omega | (simp; done)))
        refine SRun.run 100 ?_; simp -implicitDefEqProofs only [↓qx, qr, ql, qb, qs1, qs2, qs3, qs4, qs5, nilA, clearA, Value.oneCell', forall_const, guards, idxA, indexVA, lenA, buildA, bsA, sliceA, ↓reduceIte, ne_eq, Nat.reduceAdd, Nat.reduceBNe, Nat.reduceMul, Nat.reduceSub, Int.reduceEq, Int.reduceNe, Int.reduceLT, Int.reduceLE, Int.reduceAdd, Int.reduceMul, Int.reduceSub, Int.reduceNeg, Nat.reduceBEq, Nat.reduceEqDiff, Nat.reduceLT, Nat.reduceLeDiff, Int.reduceToNat, tis, show Try.f3.results = #[Go.ResultVar.tmp 8] from rfl, h2, h7, h9, h10, lt_13, lt_14, lt_15, hf0, hbN, hbR, lt_16, lt_17, lt_18, lt_19,  tab]
        refine fin_sub hst (hK _ ?_)
        omega
      · have hge : (i : Int) ≤ (k : Int) := by omega
        refine SRun.draw' (.quiet 0 false (.quiet 1 false (.quiet 2 false (.quiet 3 false (.quiet 4 false (.quiet 5 false (.quiet 6 false (.quiet 7 false (.quiet 8 false .done))))))))) mixed (by kernel_rfl) ?_
        simp -implicitDefEqProofs only [↓qx, qr, ql, qb, qs1, qs2, qs3, qs4, qs5, nilA, clearA, Value.oneCell', forall_const, guards, idxA, indexVA, lenA, buildA, bsA, sliceA, ↓reduceIte, ne_eq, Nat.reduceAdd, Nat.reduceBNe, Nat.reduceMul, Nat.reduceSub, Int.reduceEq, Int.reduceNe, Int.reduceLT, Int.reduceLE, Int.reduceAdd, Int.reduceMul, Int.reduceSub, Int.reduceNeg, Nat.reduceBEq, Nat.reduceEqDiff, Nat.reduceLT, Nat.reduceLeDiff, Int.reduceToNat, tis, show Try.f3.results = #[Go.ResultVar.tmp 8] from rfl, h2, h7, h9, h10, lt_13, lt_14, lt_15, hf0, hbN, hbR, lt_16, lt_17, lt_18, lt_19, tab, hg, ht]
        repeat (with_reducible refine And.intro ?_ ?_; focus (first | omega | (simp; done)))
        refine SRun.run 100 ?_; simp -implicitDefEqProofs only [↓qx, qr, ql, qb, qs1, qs2, qs3, qs4, qs5, nilA, clearA, Value.oneCell', forall_const, guards, idxA, indexVA, lenA, buildA, bsA, sliceA, ↓reduceIte, ne_eq, Nat.reduceAdd, Nat.reduceBNe, Nat.reduceMul, Nat.reduceSub, Int.reduceEq, Int.reduceNe, Int.reduceLT, Int.reduceLE, Int.reduceAdd, Int.reduceMul, Int.reduceSub, Int.reduceNeg, Nat.reduceBEq, Nat.reduceEqDiff, Nat.reduceLT, Nat.reduceLeDiff, Int.reduceToNat, tis, show Try.f3.results = #[Go.ResultVar.tmp 8] from rfl, h2, h7, h9, h10, lt_13, lt_14, lt_15, hf0, hbN, hbR, lt_16, lt_17, lt_18, lt_19,  tab, hge]
        refine fin_sub hst (hK _ ?_)
        omega
    · have lt_20 : nx + 1 < b6 := by omega
      have lt_21 : b2 < b6 := by omega
      have lt_22 : b4 < b6 := by omega
      have lt_23 : u < b6 := by omega
      by_cases hfg : f = g
      · have e1 : f.t = g.t := by rw [hfg]
        have e2 : f.i = g.i := by rw [hfg]
        refine SRun.run 100 ?_; simp -implicitDefEqProofs only [↓qx, qr, ql, qb, qs1, qs2, qs3, qs4, qs5, nilA, clearA, Value.oneCell', forall_const, guards, idxA, indexVA, lenA, buildA, bsA, sliceA, ↓reduceIte, ne_eq, Nat.reduceAdd, Nat.reduceBNe, Nat.reduceMul, Nat.reduceSub, Int.reduceEq, Int.reduceNe, Int.reduceLT, Int.reduceLE, Int.reduceAdd, Int.reduceMul, Int.reduceSub, Int.reduceNeg, Nat.reduceBEq, Nat.reduceEqDiff, Nat.reduceLT, Nat.reduceLeDiff, Int.reduceToNat, tis, show Try.f3.results = #[Go.ResultVar.tmp 8] from rfl, h2, h7, h9, h10, lt_13, lt_14, lt_15, hf0, hbN, hbR, lt_20, lt_21, lt_22, lt_23,  tab]
        refine SRun.draw' (.quiet 0 false (.quiet 1 false (.quiet 2 false (.quiet 3 false (.quiet 4 false (.quiet 5 false (.quiet 6 false .done))))))) mixed (by kernel_rfl) ?_
        simp -implicitDefEqProofs only [↓qx, qr, ql, qb, qs1, qs2, qs3, qs4, qs5, nilA, clearA, Value.oneCell', forall_const, guards, idxA, indexVA, lenA, buildA, bsA, sliceA, ↓reduceIte, ne_eq, Nat.reduceAdd, Nat.reduceBNe, Nat.reduceMul, Nat.reduceSub, Int.reduceEq, Int.reduceNe, Int.reduceLT, Int.reduceLE, Int.reduceAdd, Int.reduceMul, Int.reduceSub, Int.reduceNeg, Nat.reduceBEq, Nat.reduceEqDiff, Nat.reduceLT, Nat.reduceLeDiff, Int.reduceToNat, tis, show Try.f3.results = #[Go.ResultVar.tmp 8] from rfl, h2, h7, h9, h10, lt_13, lt_14, lt_15, hf0, hbN, hbR, lt_20, lt_21, lt_22, lt_23, tab, hg, e1, e2]
        repeat (with_reducible refine And.intro ?_ ?_; focus (first | omega | (simp; done)))
        refine SRun.run 100 ?_; simp -implicitDefEqProofs only [↓qx, qr, ql, qb, qs1, qs2, qs3, qs4, qs5, nilA, clearA, Value.oneCell', forall_const, guards, idxA, indexVA, lenA, buildA, bsA, sliceA, ↓reduceIte, ne_eq, Nat.reduceAdd, Nat.reduceBNe, Nat.reduceMul, Nat.reduceSub, Int.reduceEq, Int.reduceNe, Int.reduceLT, Int.reduceLE, Int.reduceAdd, Int.reduceMul, Int.reduceSub, Int.reduceNeg, Nat.reduceBEq, Nat.reduceEqDiff, Nat.reduceLT, Nat.reduceLeDiff, Int.reduceToNat, tis, show Try.f3.results = #[Go.ResultVar.tmp 8] from rfl, h2, h7, h9, h10, lt_13, lt_14, lt_15, hf0, hbN, hbR, lt_20, lt_21, lt_22, lt_23,  tab]
        refine fin_sub hst (hK _ ?_)
        omega
      · have hb : (decide (f.t = g.t) && decide (f.i = g.i)) = false := fire_ne hfg
        by_cases ht : f.t = g.t
        · have hk3 := hj.1 ht hfg
          rw [hq] at hk3
          cases hk3
        · refine SRun.run 100 ?_; simp -implicitDefEqProofs only [↓qx, qr, ql, qb, qs1, qs2, qs3, qs4, qs5, nilA, clearA, Value.oneCell', forall_const, guards, idxA, indexVA, lenA, buildA, bsA, sliceA, ↓reduceIte, ne_eq, Nat.reduceAdd, Nat.reduceBNe, Nat.reduceMul, Nat.reduceSub, Int.reduceEq, Int.reduceNe, Int.reduceLT, Int.reduceLE, Int.reduceAdd, Int.reduceMul, Int.reduceSub, Int.reduceNeg, Nat.reduceBEq, Nat.reduceEqDiff, Nat.reduceLT, Nat.reduceLeDiff, Int.reduceToNat, tis, show Try.f3.results = #[Go.ResultVar.tmp 8] from rfl, h2, h7, h9, h10, lt_13, lt_14, lt_15, hf0, hbN, hbR, lt_20, lt_21, lt_22, lt_23,  tab]
          refine SRun.draw' (.quiet 0 false (.quiet 1 false (.quiet 2 false (.quiet 3 false (.quiet 4 false (.quiet 5 false (.quiet 6 false .done))))))) mixed (by kernel_rfl) ?_
          simp -implicitDefEqProofs only [↓qx, qr, ql, qb, qs1, qs2, qs3, qs4, qs5, nilA, clearA, Value.oneCell', forall_const, guards, idxA, indexVA, lenA, buildA, bsA, sliceA, ↓reduceIte, ne_eq, Nat.reduceAdd, Nat.reduceBNe, Nat.reduceMul, Nat.reduceSub, Int.reduceEq, Int.reduceNe, Int.reduceLT, Int.reduceLE, Int.reduceAdd, Int.reduceMul, Int.reduceSub, Int.reduceNeg, Nat.reduceBEq, Nat.reduceEqDiff, Nat.reduceLT, Nat.reduceLeDiff, Int.reduceToNat, tis, show Try.f3.results = #[Go.ResultVar.tmp 8] from rfl, h2, h7, h9, h10, lt_13, lt_14, lt_15, hf0, hbN, hbR, lt_20, lt_21, lt_22, lt_23, tab, hg, hb]
          repeat (with_reducible refine And.intro ?_ ?_; focus (first | omega | (simp; done)))
          refine SRun.run 100 ?_; simp -implicitDefEqProofs only [↓qx, qr, ql, qb, qs1, qs2, qs3, qs4, qs5, nilA, clearA, Value.oneCell', forall_const, guards, idxA, indexVA, lenA, buildA, bsA, sliceA, ↓reduceIte, ne_eq, Nat.reduceAdd, Nat.reduceBNe, Nat.reduceMul, Nat.reduceSub, Int.reduceEq, Int.reduceNe, Int.reduceLT, Int.reduceLE, Int.reduceAdd, Int.reduceMul, Int.reduceSub, Int.reduceNeg, Nat.reduceBEq, Nat.reduceEqDiff, Nat.reduceLT, Nat.reduceLeDiff, Int.reduceToNat, tis, show Try.f3.results = #[Go.ResultVar.tmp 8] from rfl, h2, h7, h9, h10, lt_13, lt_14, lt_15, hf0, hbN, hbR, lt_20, lt_21, lt_22, lt_23,  tab, hb]
          refine SRun.draw' (.quiet 0 false (.quiet 1 false (.quiet 2 false (.quiet 3 false (.quiet 4 false (.quiet 5 false (.quiet 6 false (.quiet 7 false (.quiet 8 false .done))))))))) mixed (by kernel_rfl) ?_
          simp -implicitDefEqProofs only [↓qx, qr, ql, qb, qs1, qs2, qs3, qs4, qs5, nilA, clearA, Value.oneCell', forall_const, guards, idxA, indexVA, lenA, buildA, bsA, sliceA, ↓reduceIte, ne_eq, Nat.reduceAdd, Nat.reduceBNe, Nat.reduceMul, Nat.reduceSub, Int.reduceEq, Int.reduceNe, Int.reduceLT, Int.reduceLE, Int.reduceAdd, Int.reduceMul, Int.reduceSub, Int.reduceNeg, Nat.reduceBEq, Nat.reduceEqDiff, Nat.reduceLT, Nat.reduceLeDiff, Int.reduceToNat, tis, show Try.f3.results = #[Go.ResultVar.tmp 8] from rfl, h2, h7, h9, h10, lt_13, lt_14, lt_15, hf0, hbN, hbR, lt_20, lt_21, lt_22, lt_23, tab, hg, ht]
          repeat (with_reducible refine And.intro ?_ ?_; focus (first | omega | (simp; done)))
          refine SRun.run 100 ?_; simp -implicitDefEqProofs only [↓qx, qr, ql, qb, qs1, qs2, qs3, qs4, qs5, nilA, clearA, Value.oneCell', forall_const, guards, idxA, indexVA, lenA, buildA, bsA, sliceA, ↓reduceIte, ne_eq, Nat.reduceAdd, Nat.reduceBNe, Nat.reduceMul, Nat.reduceSub, Int.reduceEq, Int.reduceNe, Int.reduceLT, Int.reduceLE, Int.reduceAdd, Int.reduceMul, Int.reduceSub, Int.reduceNeg, Nat.reduceBEq, Nat.reduceEqDiff, Nat.reduceLT, Nat.reduceLeDiff, Int.reduceToNat, tis, show Try.f3.results = #[Go.ResultVar.tmp 8] from rfl, h2, h7, h9, h10, lt_13, lt_14, lt_15, hf0, hbN, hbR, lt_20, lt_21, lt_22, lt_23,  tab]
          refine fin_sub hst (hK _ ?_)
          omega
  by_cases c2 : R.1.log.length = 0
  · have c3 : ¬ (0 : Int) < (R.1.log.length : Int) := by omega
    refine SRun.run 27 ?_; simp -implicitDefEqProofs only [↓qx, qr, ql, qb, qs1, qs2, qs3, qs4, qs5, nilA, clearA, Value.oneCell', forall_const, guards, idxA, indexVA, lenA, buildA, bsA, sliceA, ↓reduceIte, ne_eq, Nat.reduceAdd, Nat.reduceBNe, Nat.reduceMul, Nat.reduceSub, Int.reduceEq, Int.reduceNe, Int.reduceLT, Int.reduceLE, Int.reduceAdd, Int.reduceMul, Int.reduceSub, Int.reduceNeg, Nat.reduceBEq, Nat.reduceEqDiff, Nat.reduceLT, Nat.reduceLeDiff, Int.reduceToNat, tis, show Try.f3.results = #[Go.ResultVar.tmp 8] from rfl, lt_0, lt_1, lt_2, lt_3, lt_4, lt_5, lt_6, lt_7, lt_8, lt_9, lt_10, lt_11, lt_12,  tab, c1, c3]
    refine SRun.gen (fun fr st1 nx1 => fr 2 = .int .u8 ha ∧ fr 7 = .bp (nx + 1) 0 ∧ fr 9 = .bp b2 0 ∧ fr 10 = .bp b4 0 ∧ (st1 (nx + 1) = some (.box (eFire f))) ∧ (st1 b2 = some (.box (eNet N))) ∧ (st1 b4 = some (.box [aFires R.1.log, aInts R.1.marks, aInts R.1.way, .int .i64 R.1.time])) ∧ (Fw.Sub st st1) ∧ (b4 < nx1)) (by refine ⟨_, _, _, ConvF.refl _ _ _, ?_⟩; refine ⟨?_, ?_, ?_, ?_, by simp -implicitDefEqProofs only [↓qx, qr, ql, qb, qs1, qs2, qs3, qs4, qs5, nilA, clearA, Value.oneCell', forall_const, guards, idxA, indexVA, lenA, buildA, bsA, sliceA, ↓reduceIte, ne_eq, Nat.reduceAdd, Nat.reduceBNe, Nat.reduceMul, Nat.reduceSub, Int.reduceEq, Int.reduceNe, Int.reduceLT, Int.reduceLE, Int.reduceAdd, Int.reduceMul, Int.reduceSub, Int.reduceNeg, Nat.reduceBEq, Nat.reduceEqDiff, Nat.reduceLT, Nat.reduceLeDiff, Int.reduceToNat, tis, show Try.f3.results = #[Go.ResultVar.tmp 8] from rfl, lt_0, lt_1, lt_2, lt_3, lt_4, lt_5, lt_6, lt_7, lt_8, lt_9, lt_10, lt_11, lt_12], by simp -implicitDefEqProofs only [↓qx, qr, ql, qb, qs1, qs2, qs3, qs4, qs5, nilA, clearA, Value.oneCell', forall_const, guards, idxA, indexVA, lenA, buildA, bsA, sliceA, ↓reduceIte, ne_eq, Nat.reduceAdd, Nat.reduceBNe, Nat.reduceMul, Nat.reduceSub, Int.reduceEq, Int.reduceNe, Int.reduceLT, Int.reduceLE, Int.reduceAdd, Int.reduceMul, Int.reduceSub, Int.reduceNeg, Nat.reduceBEq, Nat.reduceEqDiff, Nat.reduceLT, Nat.reduceLeDiff, Int.reduceToNat, tis, show Try.f3.results = #[Go.ResultVar.tmp 8] from rfl, lt_0, lt_1, lt_2, lt_3, lt_4, lt_5, lt_6, lt_7, lt_8, lt_9, lt_10, lt_11, lt_12], (by simp -implicitDefEqProofs only [↓qx, qr, ql, qb, qs1, qs2, qs3, qs4, qs5, nilA, clearA, Value.oneCell', forall_const, guards, idxA, indexVA, lenA, buildA, bsA, sliceA, ↓reduceIte, ne_eq, Nat.reduceAdd, Nat.reduceBNe, Nat.reduceMul, Nat.reduceSub, Int.reduceEq, Int.reduceNe, Int.reduceLT, Int.reduceLE, Int.reduceAdd, Int.reduceMul, Int.reduceSub, Int.reduceNeg, Nat.reduceBEq, Nat.reduceEqDiff, Nat.reduceLT, Nat.reduceLeDiff, Int.reduceToNat, tis, show Try.f3.results = #[Go.ResultVar.tmp 8] from rfl, lt_0, lt_1, lt_2, lt_3, lt_4, lt_5, lt_6, lt_7, lt_8, lt_9, lt_10, lt_11, lt_12]; first | done | rfl), (by repeat first | exact hsub | refine Sub.new ?_ (hfin _ (by omega)) | refine Sub.del ?_ (hfin _ (by omega)) | refine Sub.tag ?_ (hfin _ (by omega)) (hfin _ (by omega)) (fun p hp => hfin p (by first | (simp only [List.not_mem_nil] at hp; done) | (simp only [List.mem_cons, List.not_mem_nil, or_false] at hp; omega)))), (by omega)⟩ <;> first | done | (simp -implicitDefEqProofs only [↓qx, qr, ql, qb, qs1, qs2, qs3, qs4, qs5, nilA, clearA, Value.oneCell', forall_const, guards, idxA, indexVA, lenA, buildA, bsA, sliceA, ↓reduceIte, ne_eq, Nat.reduceAdd, Nat.reduceBNe, Nat.reduceMul, Nat.reduceSub, Int.reduceEq, Int.reduceNe, Int.reduceLT, Int.reduceLE, Int.reduceAdd, Int.reduceMul, Int.reduceSub, Int.reduceNeg, Nat.reduceBEq, Nat.reduceEqDiff, Nat.reduceLT, Nat.reduceLeDiff, Int.reduceToNat, tis, show Try.f3.results = #[Go.ResultVar.tmp 8] from rfl, lt_0, lt_1, lt_2, lt_3, lt_4, lt_5, lt_6, lt_7, lt_8, lt_9, lt_10, lt_11, lt_12, tab]; first | done | rfl)) ?_
    intro fr st1 nx1 hJ
    obtain ⟨h2, h7, h9, h10, hf0, hbN, hbR, hsub, hnx⟩ := hJ
    obtain ⟨S2, hS2⟩ : ∃ S2, S2 = ((st.set (nx + 1) (.box (eFire f))).set b2 (.box (eNet N))).set b4 (.box [aFires R.1.log, aInts R.1.marks, aInts R.1.way, .int .i64 R.1.time]) := ⟨_, rfl⟩
    have hc2 : Fw.Sub S2 st1 := by rw [hS2]; exact sub_with (sub_with (sub_with hsub hf0) hbN) hbR
    have hst : Fw.Sub st S2 := by rw [hS2]; exact Fw.Sub.new (Fw.Sub.new (Fw.Sub.new (Fw.Sub.refl st) (hfin _ (by omega))) (hfin _ (by omega))) (hfin _ (by omega))
    have hf2 : ∀ id, b4 + 1 ≤ id → S2 id = none := fun id hid => by rw [hS2, Store.get_set_ne (by omega), Store.get_set_ne (by omega), Store.get_set_ne (by omega)]; exact hfin _ (by omega)
    have hf0 : S2 (nx + 1) = some (.box (eFire f)) := hS2 ▸ (by rw [Store.get_set_ne (by omega), Store.get_set_ne (by omega), Store.get_set_same])
    have hbN : S2 b2 = some (.box (eNet N)) := hS2 ▸ (by rw [Store.get_set_ne (by omega), Store.get_set_same])
    have hbR : S2 b4 = some (.box [aFires R.1.log, aInts R.1.marks, aInts R.1.way, .int .i64 R.1.time]) := hS2 ▸ (by rw [Store.get_set_same])
    refine SRun.conv (ConvF.sub hc2) ?_
    clear hS2 hc2
    have hsub := Fw.Sub.refl S2
    have hfin := hf2
    obtain ⟨u, hu⟩ : ∃ u, u = nx1 := ⟨_, rfl⟩
    rw [← hu] at hnx ⊢
    clear hu
    have lt_24 : nx + 1 < u := by omega
    have lt_25 : b2 < u := by omega
    have lt_26 : b4 < u := by omega
    
    by_cases c7 : R.1.log.length = 0
    · have c8 : (R.1.log.length : Int) = 0 := by omega
      refine SRun.run 100 ?_; simp -implicitDefEqProofs only [↓qx, qr, ql, qb, qs1, qs2, qs3, qs4, qs5, nilA, clearA, Value.oneCell', forall_const, guards, idxA, indexVA, lenA, buildA, bsA, sliceA, ↓reduceIte, ne_eq, Nat.reduceAdd, Nat.reduceBNe, Nat.reduceMul, Nat.reduceSub, Int.reduceEq, Int.reduceNe, Int.reduceLT, Int.reduceLE, Int.reduceAdd, Int.reduceMul, Int.reduceSub, Int.reduceNeg, Nat.reduceBEq, Nat.reduceEqDiff, Nat.reduceLT, Nat.reduceLeDiff, Int.reduceToNat, tis, show Try.f3.results = #[Go.ResultVar.tmp 8] from rfl, h2, h7, h9, h10, lt_24, lt_25, lt_26, hf0, hbN, hbR,  tab, c8]
      refine fin_sub hst (hK _ ?_)
      omega
    have c8 : ¬ (R.1.log.length : Int) = 0 := by omega
    have q0 := Int.tmod_nonneg (R.1.log.length : Int) hha.1
    have q1 := Int.tmod_lt_of_pos ha (show (0 : Int) < (R.1.log.length : Int) by omega)
    obtain ⟨i, hi⟩ : ∃ i : Nat, ha.tmod (R.1.log.length : Int) = (i : Int) := ⟨(ha.tmod (R.1.log.length : Int)).toNat, by omega⟩
    rw [hi] at q1
    have hil : i < R.1.log.length := by omega
    refine SRun.run 100 ?_; simp -implicitDefEqProofs only [↓qx, qr, ql, qb, qs1, qs2, qs3, qs4, qs5, nilA, clearA, Value.oneCell', forall_const, guards, idxA, indexVA, lenA, buildA, bsA, sliceA, ↓reduceIte, ne_eq, Nat.reduceAdd, Nat.reduceBNe, Nat.reduceMul, Nat.reduceSub, Int.reduceEq, Int.reduceNe, Int.reduceLT, Int.reduceLE, Int.reduceAdd, Int.reduceMul, Int.reduceSub, Int.reduceNeg, Nat.reduceBEq, Nat.reduceEqDiff, Nat.reduceLT, Nat.reduceLeDiff, Int.reduceToNat, tis, show Try.f3.results = #[Go.ResultVar.tmp 8] from rfl, h2, h7, h9, h10, lt_24, lt_25, lt_26, hf0, hbN, hbR,  tab, c8, hwa, hi]
    repeat (with_reducible refine And.intro ?_ ?_; focus (first | omega | (simp; done)))
    have hj := jrun_set hj1 hil f
    have hself : R.1.log.set i (R.1.log.getD i dFire) = R.1.log := by rw [List.getD_eq_getElem?_getD, List.getElem?_eq_getElem hil]; exact List.set_getElem_self hil
    obtain ⟨g, hg⟩ : ∃ g, R.1.log.getD i dFire = g := ⟨_, rfl⟩
    rw [hg] at hj hself
    have hsl : (R.1.log.set i f).length = R.1.log.length := List.length_set
    refine SCall.turn (st' := S2) ?_ (args' := [.agg (eNet N), aFires (R.1.log.set i f)]) (TnL.cons (Tn.same ?_ _) (TnL.cons (row_lt (enc := eFire) (d := dFire) (R.1.log.set i f) hsl (by repeat first | exact hsub | refine Sub.new ?_ (hfin _ (by omega)) | refine Sub.del ?_ (hfin _ (by omega)) | refine Sub.tag ?_ (hfin _ (by omega)) (hfin _ (by omega)) (fun p hp => hfin p (by first | (simp only [List.not_mem_nil] at hp; done) | (simp only [List.mem_cons, List.not_mem_nil, or_false] at hp; omega)))) (by exact Store.get_set_same _ _ _) (hfin u (by omega)) (fun j hj => ?_) (fun _ => rfl)) TnL.nil)) (replay_ok N (R.1.log.set i f) _ _ _ hNL (by omega) (fun b6 hb6 hz => absurd hchk hz) (fun k b6 hb6 _ hq => ?_) fun b6 hb6 _ hq => ?_)
    · exact (by repeat first | exact hsub | refine Sub.new ?_ (hfin _ (by omega)) | refine Sub.del ?_ (hfin _ (by omega)) | refine Sub.tag ?_ (hfin _ (by omega)) (hfin _ (by omega)) (fun p hp => hfin p (by first | (simp only [List.not_mem_nil] at hp; done) | (simp only [List.mem_cons, List.not_mem_nil, or_false] at hp; omega))))
    · exact (by repeat first | exact hsub | refine Sub.new ?_ (hfin _ (by omega)) | refine Sub.del ?_ (hfin _ (by omega)) | refine Sub.tag ?_ (hfin _ (by omega)) (hfin _ (by omega)) (fun p hp => hfin p (by first | (simp only [List.not_mem_nil] at hp; done) | (simp only [List.mem_cons, List.not_mem_nil, or_false] at hp; omega))))
    · rw [← rowset_t rfl hil j]
      by_cases e : j = i
      · subst e
        simp only [if_true]
        exact TnL.same (sub_del_of (by repeat first | exact hsub | refine Sub.new ?_ (hfin _ (by omega)) | refine Sub.del ?_ (hfin _ (by omega)) | refine Sub.tag ?_ (hfin _ (by omega)) (hfin _ (by omega)) (fun p hp => hfin p (by first | (simp only [List.not_mem_nil] at hp; done) | (simp only [List.mem_cons, List.not_mem_nil, or_false] at hp; omega)))) (hfin _ (by omega))) _
      · simp only [e, if_false]
        exact TnL.same (sub_del_of (by repeat first | exact hsub | refine Sub.new ?_ (hfin _ (by omega)) | refine Sub.del ?_ (hfin _ (by omega)) | refine Sub.tag ?_ (hfin _ (by omega)) (hfin _ (by omega)) (fun p hp => hfin p (by first | (simp only [List.not_mem_nil] at hp; done) | (simp only [List.mem_cons, List.not_mem_nil, or_false] at hp; omega)))) (hfin _ (by omega))) _
    · have hki := hj.2 k hq
      have hne : f ≠ g := fun e => by rw [e, hself, hj1] at hq; cases hq
      have hb : (decide (f.t = g.t) && decide (f.i = g.i)) = false := fire_ne hne
      have lt_27 : nx + 1 < b6 := by omega
      have lt_28 : b2 < b6 := by omega
      have lt_29 : b4 < b6 := by omega
      have lt_30 : u < b6 := by omega
      refine SRun.run 100 ?_; simp -implicitDefEqProofs only [↓qx, qr, ql, qb, qs1, qs2, qs3, qs4, qs5, nilA, clearA, Value.oneCell', forall_const, guards, idxA, indexVA, lenA, buildA, bsA, sliceA, ↓reduceIte, ne_eq, Nat.reduceAdd, Nat.reduceBNe, Nat.reduceMul, Nat.reduceSub, Int.reduceEq, Int.reduceNe, Int.reduceLT, Int.reduceLE, Int.reduceAdd, Int.reduceMul, Int.reduceSub, Int.reduceNeg, Nat.reduceBEq, Nat.reduceEqDiff, Nat.reduceLT, Nat.reduceLeDiff, Int.reduceToNat, tis, show Try.f3.results = #[Go.ResultVar.tmp 8] from rfl, h2, h7, h9, h10, lt_24, lt_25, lt_26, hf0, hbN, hbR, lt_27, lt_28, lt_29, lt_30,  tab]
      refine SRun.draw' (.quiet 0 false (.quiet 1 false (.quiet 2 false (.quiet 3 false (.quiet 4 false (.quiet 5 false (.quiet 6 false .done))))))) mixed (by kernel_rfl) ?_
      simp -implicitDefEqProofs only [↓qx, qr, ql, qb, qs1, qs2, qs3, qs4, qs5, nilA, clearA, Value.oneCell', forall_const, guards, idxA, indexVA, lenA, buildA, bsA, sliceA, ↓reduceIte, ne_eq, Nat.reduceAdd, Nat.reduceBNe, Nat.reduceMul, Nat.reduceSub, Int.reduceEq, Int.reduceNe, Int.reduceLT, Int.reduceLE, Int.reduceAdd, Int.reduceMul, Int.reduceSub, Int.reduceNeg, Nat.reduceBEq, Nat.reduceEqDiff, Nat.reduceLT, Nat.reduceLeDiff, Int.reduceToNat, tis, show Try.f3.results = #[Go.ResultVar.tmp 8] from rfl, h2, h7, h9, h10, lt_24, lt_25, lt_26, hf0, hbN, hbR, lt_27, lt_28, lt_29, lt_30, tab, hg, hb]
      repeat (with_reducible refine And.intro ?_ ?_; focus (first | omega | (simp; done)))
      refine SRun.run 100 ?_; simp -implicitDefEqProofs only [↓qx, qr, ql, qb, qs1, qs2, qs3, qs4, qs5, nilA, clearA, Value.oneCell', forall_const, guards, idxA, indexVA, lenA, buildA, bsA, sliceA, ↓reduceIte, ne_eq, Nat.reduceAdd, Nat.reduceBNe, Nat.reduceMul, Nat.reduceSub, Int.reduceEq, Int.reduceNe, Int.reduceLT, Int.reduceLE, Int.reduceAdd, Int.reduceMul, Int.reduceSub, Int.reduceNeg, Nat.reduceBEq, Nat.reduceEqDiff, Nat.reduceLT, Nat.reduceLeDiff, Int.reduceToNat, tis, show Try.f3.results = #[Go.ResultVar.tmp 8] from rfl, h2, h7, h9, h10, lt_24, lt_25, lt_26, hf0, hbN, hbR, lt_27, lt_28, lt_29, lt_30,  tab, hb]
      by_cases ht : f.t = g.t
      · have hk3 := hj.1 ht hne
        rw [hq] at hk3
        injection hk3 with hk3
        subst hk3
        refine SRun.draw' (.quiet 0 false (.quiet 1 false (.quiet 2 false (.quiet 3 false (.quiet 4 false (.quiet 5 false (.quiet 6 false (.quiet 7 false (.quiet 8 false .done))))))))) mixed (by kernel_rfl) ?_
        simp -implicitDefEqProofs only [↓qx, qr, ql, qb, qs1, qs2, qs3, qs4, qs5, nilA, clearA, Value.oneCell', forall_const, guards, idxA, indexVA, lenA, buildA, bsA, sliceA, ↓reduceIte, ne_eq, Nat.reduceAdd, Nat.reduceBNe, Nat.reduceMul, Nat.reduceSub, Int.reduceEq, Int.reduceNe, Int.reduceLT, Int.reduceLE, Int.reduceAdd, Int.reduceMul, Int.reduceSub, Int.reduceNeg, Nat.reduceBEq, Nat.reduceEqDiff, Nat.reduceLT, Nat.reduceLeDiff, Int.reduceToNat, tis, show Try.f3.results = #[Go.ResultVar.tmp 8] from rfl, h2, h7, h9, h10, lt_24, lt_25, lt_26, hf0, hbN, hbR, lt_27, lt_28, lt_29, lt_30, tab, hg, ht]
        repeat (with_reducible refine And.intro ?_ ?_; focus (first | omega | (simp; done)))
        refine SRun.run 100 ?_; simp -implicitDefEqProofs only [↓qx, qr, ql, qb, qs1, qs2, qs3, qs4, qs5, nilA, clearA, Value.oneCell', forall_const, guards, idxA, indexVA, lenA, buildA, bsA, sliceA, ↓reduceIte, ne_eq, Nat.reduceAdd, Nat.reduceBNe, Nat.reduceMul, Nat.reduceSub, Int.reduceEq, Int.reduceNe, Int.reduceLT, Int.reduceLE, Int.reduceAdd, Int.reduceMul, Int.reduceSub, Int.reduceNeg, Nat.reduceBEq, Nat.reduceEqDiff, Nat.reduceLT, Nat.reduceLeDiff, Int.reduceToNat, tis, show Try.f3.results = #[Go.ResultVar.tmp 8] from rfl, h2, h7, h9, h10, lt_24, lt_25, lt_26, hf0, hbN, hbR, lt_27, lt_28, lt_29, lt_30,  tab]
        refine fin_sub hst (hK _ ?_)
        omega
      · have hge : (i : Int) ≤ (k : Int) := by omega
        refine SRun.draw' (.quiet 0 false (.quiet 1 false (.quiet 2 false (.quiet 3 false (.quiet 4 false (.quiet 5 false (.quiet 6 false (.quiet 7 false (.quiet 8 false .done))))))))) mixed (by kernel_rfl) ?_
        simp -implicitDefEqProofs only [↓qx, qr, ql, qb, qs1, qs2, qs3, qs4, qs5, nilA, clearA, Value.oneCell', forall_const, guards, idxA, indexVA, lenA, buildA, bsA, sliceA, ↓reduceIte, ne_eq, Nat.reduceAdd, Nat.reduceBNe, Nat.reduceMul, Nat.reduceSub, Int.reduceEq, Int.reduceNe, Int.reduceLT, Int.reduceLE, Int.reduceAdd, Int.reduceMul, Int.reduceSub, Int.reduceNeg, Nat.reduceBEq, Nat.reduceEqDiff, Nat.reduceLT, Nat.reduceLeDiff, Int.reduceToNat, tis, show Try.f3.results = #[Go.ResultVar.tmp 8] from rfl, h2, h7, h9, h10, lt_24, lt_25, lt_26, hf0, hbN, hbR, lt_27, lt_28, lt_29, lt_30, tab, hg, ht]
        repeat (with_reducible refine And.intro ?_ ?_; focus (first | omega | (simp; done)))
        refine SRun.run 100 ?_; simp -implicitDefEqProofs only [↓qx, qr, ql, qb, qs1, qs2, qs3, qs4, qs5, nilA, clearA, Value.oneCell', forall_const, guards, idxA, indexVA, lenA, buildA, bsA, sliceA, ↓reduceIte, ne_eq, Nat.reduceAdd, Nat.reduceBNe, Nat.reduceMul, Nat.reduceSub, Int.reduceEq, Int.reduceNe, Int.reduceLT, Int.reduceLE, Int.reduceAdd, Int.reduceMul, Int.reduceSub, Int.reduceNeg, Nat.reduceBEq, Nat.reduceEqDiff, Nat.reduceLT, Nat.reduceLeDiff, Int.reduceToNat, tis, show Try.f3.results = #[Go.ResultVar.tmp 8] from rfl, h2, h7, h9, h10, lt_24, lt_25, lt_26, hf0, hbN, hbR, lt_27, lt_28, lt_29, lt_30,  tab, hge]
        refine fin_sub hst (hK _ ?_)
        omega
    · have lt_31 : nx + 1 < b6 := by omega
      have lt_32 : b2 < b6 := by omega
      have lt_33 : b4 < b6 := by omega
      have lt_34 : u < b6 := by omega
      by_cases hfg : f = g
      · have e1 : f.t = g.t := by rw [hfg]
        have e2 : f.i = g.i := by rw [hfg]
        refine SRun.run 100 ?_; simp -implicitDefEqProofs only [↓qx, qr, ql, qb, qs1, qs2, qs3, qs4, qs5, nilA, clearA, Value.oneCell', forall_const, guards, idxA, indexVA, lenA, buildA, bsA, sliceA, ↓reduceIte, ne_eq, Nat.reduceAdd, Nat.reduceBNe, Nat.reduceMul, Nat.reduceSub, Int.reduceEq, Int.reduceNe, Int.reduceLT, Int.reduceLE, Int.reduceAdd, Int.reduceMul, Int.reduceSub, Int.reduceNeg, Nat.reduceBEq, Nat.reduceEqDiff, Nat.reduceLT, Nat.reduceLeDiff, Int.reduceToNat, tis, show Try.f3.results = #[Go.ResultVar.tmp 8] from rfl, h2, h7, h9, h10, lt_24, lt_25, lt_26, hf0, hbN, hbR, lt_31, lt_32, lt_33, lt_34,  tab]
        refine SRun.draw' (.quiet 0 false (.quiet 1 false (.quiet 2 false (.quiet 3 false (.quiet 4 false (.quiet 5 false (.quiet 6 false .done))))))) mixed (by kernel_rfl) ?_
        simp -implicitDefEqProofs only [↓qx, qr, ql, qb, qs1, qs2, qs3, qs4, qs5, nilA, clearA, Value.oneCell', forall_const, guards, idxA, indexVA, lenA, buildA, bsA, sliceA, ↓reduceIte, ne_eq, Nat.reduceAdd, Nat.reduceBNe, Nat.reduceMul, Nat.reduceSub, Int.reduceEq, Int.reduceNe, Int.reduceLT, Int.reduceLE, Int.reduceAdd, Int.reduceMul, Int.reduceSub, Int.reduceNeg, Nat.reduceBEq, Nat.reduceEqDiff, Nat.reduceLT, Nat.reduceLeDiff, Int.reduceToNat, tis, show Try.f3.results = #[Go.ResultVar.tmp 8] from rfl, h2, h7, h9, h10, lt_24, lt_25, lt_26, hf0, hbN, hbR, lt_31, lt_32, lt_33, lt_34, tab, hg, e1, e2]
        repeat (with_reducible refine And.intro ?_ ?_; focus (first | omega | (simp; done)))
        refine SRun.run 100 ?_; simp -implicitDefEqProofs only [↓qx, qr, ql, qb, qs1, qs2, qs3, qs4, qs5, nilA, clearA, Value.oneCell', forall_const, guards, idxA, indexVA, lenA, buildA, bsA, sliceA, ↓reduceIte, ne_eq, Nat.reduceAdd, Nat.reduceBNe, Nat.reduceMul, Nat.reduceSub, Int.reduceEq, Int.reduceNe, Int.reduceLT, Int.reduceLE, Int.reduceAdd, Int.reduceMul, Int.reduceSub, Int.reduceNeg, Nat.reduceBEq, Nat.reduceEqDiff, Nat.reduceLT, Nat.reduceLeDiff, Int.reduceToNat, tis, show Try.f3.results = #[Go.ResultVar.tmp 8] from rfl, h2, h7, h9, h10, lt_24, lt_25, lt_26, hf0, hbN, hbR, lt_31, lt_32, lt_33, lt_34,  tab]
        refine fin_sub hst (hK _ ?_)
        omega
      · have hb : (decide (f.t = g.t) && decide (f.i = g.i)) = false := fire_ne hfg
        by_cases ht : f.t = g.t
        · have hk3 := hj.1 ht hfg
          rw [hq] at hk3
          cases hk3
        · refine SRun.run 100 ?_; simp -implicitDefEqProofs only [↓qx, qr, ql, qb, qs1, qs2, qs3, qs4, qs5, nilA, clearA, Value.oneCell', forall_const, guards, idxA, indexVA, lenA, buildA, bsA, sliceA, ↓reduceIte, ne_eq, Nat.reduceAdd, Nat.reduceBNe, Nat.reduceMul, Nat.reduceSub, Int.reduceEq, Int.reduceNe, Int.reduceLT, Int.reduceLE, Int.reduceAdd, Int.reduceMul, Int.reduceSub, Int.reduceNeg, Nat.reduceBEq, Nat.reduceEqDiff, Nat.reduceLT, Nat.reduceLeDiff, Int.reduceToNat, tis, show Try.f3.results = #[Go.ResultVar.tmp 8] from rfl, h2, h7, h9, h10, lt_24, lt_25, lt_26, hf0, hbN, hbR, lt_31, lt_32, lt_33, lt_34,  tab]
          refine SRun.draw' (.quiet 0 false (.quiet 1 false (.quiet 2 false (.quiet 3 false (.quiet 4 false (.quiet 5 false (.quiet 6 false .done))))))) mixed (by kernel_rfl) ?_
          simp -implicitDefEqProofs only [↓qx, qr, ql, qb, qs1, qs2, qs3, qs4, qs5, nilA, clearA, Value.oneCell', forall_const, guards, idxA, indexVA, lenA, buildA, bsA, sliceA, ↓reduceIte, ne_eq, Nat.reduceAdd, Nat.reduceBNe, Nat.reduceMul, Nat.reduceSub, Int.reduceEq, Int.reduceNe, Int.reduceLT, Int.reduceLE, Int.reduceAdd, Int.reduceMul, Int.reduceSub, Int.reduceNeg, Nat.reduceBEq, Nat.reduceEqDiff, Nat.reduceLT, Nat.reduceLeDiff, Int.reduceToNat, tis, show Try.f3.results = #[Go.ResultVar.tmp 8] from rfl, h2, h7, h9, h10, lt_24, lt_25, lt_26, hf0, hbN, hbR, lt_31, lt_32, lt_33, lt_34, tab, hg, hb]
          repeat (with_reducible refine And.intro ?_ ?_; focus (first | omega | (simp; done)))
          refine SRun.run 100 ?_; simp -implicitDefEqProofs only [↓qx, qr, ql, qb, qs1, qs2, qs3, qs4, qs5, nilA, clearA, Value.oneCell', forall_const, guards, idxA, indexVA, lenA, buildA, bsA, sliceA, ↓reduceIte, ne_eq, Nat.reduceAdd, Nat.reduceBNe, Nat.reduceMul, Nat.reduceSub, Int.reduceEq, Int.reduceNe, Int.reduceLT, Int.reduceLE, Int.reduceAdd, Int.reduceMul, Int.reduceSub, Int.reduceNeg, Nat.reduceBEq, Nat.reduceEqDiff, Nat.reduceLT, Nat.reduceLeDiff, Int.reduceToNat, tis, show Try.f3.results = #[Go.ResultVar.tmp 8] from rfl, h2, h7, h9, h10, lt_24, lt_25, lt_26, hf0, hbN, hbR, lt_31, lt_32, lt_33, lt_34,  tab, hb]
          refine SRun.draw' (.quiet 0 false (.quiet 1 false (.quiet 2 false (.quiet 3 false (.quiet 4 false (.quiet 5 false (.quiet 6 false (.quiet 7 false (.quiet 8 false .done))))))))) mixed (by kernel_rfl) ?_
          simp -implicitDefEqProofs only [↓qx, qr, ql, qb, qs1, qs2, qs3, qs4, qs5, nilA, clearA, Value.oneCell', forall_const, guards, idxA, indexVA, lenA, buildA, bsA, sliceA, ↓reduceIte, ne_eq, Nat.reduceAdd, Nat.reduceBNe, Nat.reduceMul, Nat.reduceSub, Int.reduceEq, Int.reduceNe, Int.reduceLT, Int.reduceLE, Int.reduceAdd, Int.reduceMul, Int.reduceSub, Int.reduceNeg, Nat.reduceBEq, Nat.reduceEqDiff, Nat.reduceLT, Nat.reduceLeDiff, Int.reduceToNat, tis, show Try.f3.results = #[Go.ResultVar.tmp 8] from rfl, h2, h7, h9, h10, lt_24, lt_25, lt_26, hf0, hbN, hbR, lt_31, lt_32, lt_33, lt_34, tab, hg, ht]
          repeat (with_reducible refine And.intro ?_ ?_; focus (first | omega | (simp; done)))
          refine SRun.run 100 ?_; simp -implicitDefEqProofs only [↓qx, qr, ql, qb, qs1, qs2, qs3, qs4, qs5, nilA, clearA, Value.oneCell', forall_const, guards, idxA, indexVA, lenA, buildA, bsA, sliceA, ↓reduceIte, ne_eq, Nat.reduceAdd, Nat.reduceBNe, Nat.reduceMul, Nat.reduceSub, Int.reduceEq, Int.reduceNe, Int.reduceLT, Int.reduceLE, Int.reduceAdd, Int.reduceMul, Int.reduceSub, Int.reduceNeg, Nat.reduceBEq, Nat.reduceEqDiff, Nat.reduceLT, Nat.reduceLeDiff, Int.reduceToNat, tis, show Try.f3.results = #[Go.ResultVar.tmp 8] from rfl, h2, h7, h9, h10, lt_24, lt_25, lt_26, hf0, hbN, hbR, lt_31, lt_32, lt_33, lt_34,  tab]
          refine fin_sub hst (hK _ ?_)
          omega
  have c3 : (0 : Int) < (R.1.log.length : Int) := by omega
  by_cases c4 : R.1.time = J.time
  case neg =>
    refine SRun.run 27 ?_; simp -implicitDefEqProofs only [↓qx, qr, ql, qb, qs1, qs2, qs3, qs4, qs5, nilA, clearA, Value.oneCell', forall_const, guards, idxA, indexVA, lenA, buildA, bsA, sliceA, ↓reduceIte, ne_eq, Nat.reduceAdd, Nat.reduceBNe, Nat.reduceMul, Nat.reduceSub, Int.reduceEq, Int.reduceNe, Int.reduceLT, Int.reduceLE, Int.reduceAdd, Int.reduceMul, Int.reduceSub, Int.reduceNeg, Nat.reduceBEq, Nat.reduceEqDiff, Nat.reduceLT, Nat.reduceLeDiff, Int.reduceToNat, tis, show Try.f3.results = #[Go.ResultVar.tmp 8] from rfl, lt_0, lt_1, lt_2, lt_3, lt_4, lt_5, lt_6, lt_7, lt_8, lt_9, lt_10, lt_11, lt_12,  tab, c1, c3, c4]
    refine SRun.gen (fun fr st1 nx1 => fr 2 = .int .u8 ha ∧ fr 7 = .bp (nx + 1) 0 ∧ fr 9 = .bp b2 0 ∧ fr 10 = .bp b4 0 ∧ (st1 (nx + 1) = some (.box (eFire f))) ∧ (st1 b2 = some (.box (eNet N))) ∧ (st1 b4 = some (.box [aFires R.1.log, aInts R.1.marks, aInts R.1.way, .int .i64 R.1.time])) ∧ (Fw.Sub st st1) ∧ (b4 < nx1)) (by refine ⟨_, _, _, ConvF.refl _ _ _, ?_⟩; refine ⟨?_, ?_, ?_, ?_, by simp -implicitDefEqProofs only [↓qx, qr, ql, qb, qs1, qs2, qs3, qs4, qs5, nilA, clearA, Value.oneCell', forall_const, guards, idxA, indexVA, lenA, buildA, bsA, sliceA, ↓reduceIte, ne_eq, Nat.reduceAdd, Nat.reduceBNe, Nat.reduceMul, Nat.reduceSub, Int.reduceEq, Int.reduceNe, Int.reduceLT, Int.reduceLE, Int.reduceAdd, Int.reduceMul, Int.reduceSub, Int.reduceNeg, Nat.reduceBEq, Nat.reduceEqDiff, Nat.reduceLT, Nat.reduceLeDiff, Int.reduceToNat, tis, show Try.f3.results = #[Go.ResultVar.tmp 8] from rfl, lt_0, lt_1, lt_2, lt_3, lt_4, lt_5, lt_6, lt_7, lt_8, lt_9, lt_10, lt_11, lt_12], by simp -implicitDefEqProofs only [↓qx, qr, ql, qb, qs1, qs2, qs3, qs4, qs5, nilA, clearA, Value.oneCell', forall_const, guards, idxA, indexVA, lenA, buildA, bsA, sliceA, ↓reduceIte, ne_eq, Nat.reduceAdd, Nat.reduceBNe, Nat.reduceMul, Nat.reduceSub, Int.reduceEq, Int.reduceNe, Int.reduceLT, Int.reduceLE, Int.reduceAdd, Int.reduceMul, Int.reduceSub, Int.reduceNeg, Nat.reduceBEq, Nat.reduceEqDiff, Nat.reduceLT, Nat.reduceLeDiff, Int.reduceToNat, tis, show Try.f3.results = #[Go.ResultVar.tmp 8] from rfl, lt_0, lt_1, lt_2, lt_3, lt_4, lt_5, lt_6, lt_7, lt_8, lt_9, lt_10, lt_11, lt_12], (by simp -implicitDefEqProofs only [↓qx, qr, ql, qb, qs1, qs2, qs3, qs4, qs5, nilA, clearA, Value.oneCell', forall_const, guards, idxA, indexVA, lenA, buildA, bsA, sliceA, ↓reduceIte, ne_eq, Nat.reduceAdd, Nat.reduceBNe, Nat.reduceMul, Nat.reduceSub, Int.reduceEq, Int.reduceNe, Int.reduceLT, Int.reduceLE, Int.reduceAdd, Int.reduceMul, Int.reduceSub, Int.reduceNeg, Nat.reduceBEq, Nat.reduceEqDiff, Nat.reduceLT, Nat.reduceLeDiff, Int.reduceToNat, tis, show Try.f3.results = #[Go.ResultVar.tmp 8] from rfl, lt_0, lt_1, lt_2, lt_3, lt_4, lt_5, lt_6, lt_7, lt_8, lt_9, lt_10, lt_11, lt_12]; first | done | rfl), (by repeat first | exact hsub | refine Sub.new ?_ (hfin _ (by omega)) | refine Sub.del ?_ (hfin _ (by omega)) | refine Sub.tag ?_ (hfin _ (by omega)) (hfin _ (by omega)) (fun p hp => hfin p (by first | (simp only [List.not_mem_nil] at hp; done) | (simp only [List.mem_cons, List.not_mem_nil, or_false] at hp; omega)))), (by omega)⟩ <;> first | done | (simp -implicitDefEqProofs only [↓qx, qr, ql, qb, qs1, qs2, qs3, qs4, qs5, nilA, clearA, Value.oneCell', forall_const, guards, idxA, indexVA, lenA, buildA, bsA, sliceA, ↓reduceIte, ne_eq, Nat.reduceAdd, Nat.reduceBNe, Nat.reduceMul, Nat.reduceSub, Int.reduceEq, Int.reduceNe, Int.reduceLT, Int.reduceLE, Int.reduceAdd, Int.reduceMul, Int.reduceSub, Int.reduceNeg, Nat.reduceBEq, Nat.reduceEqDiff, Nat.reduceLT, Nat.reduceLeDiff, Int.reduceToNat, tis, show Try.f3.results = #[Go.ResultVar.tmp 8] from rfl, lt_0, lt_1, lt_2, lt_3, lt_4, lt_5, lt_6, lt_7, lt_8, lt_9, lt_10, lt_11, lt_12, tab]; first | done | rfl)) ?_
    intro fr st1 nx1 hJ
    obtain ⟨h2, h7, h9, h10, hf0, hbN, hbR, hsub, hnx⟩ := hJ
    obtain ⟨S2, hS2⟩ : ∃ S2, S2 = ((st.set (nx + 1) (.box (eFire f))).set b2 (.box (eNet N))).set b4 (.box [aFires R.1.log, aInts R.1.marks, aInts R.1.way, .int .i64 R.1.time]) := ⟨_, rfl⟩
    have hc2 : Fw.Sub S2 st1 := by rw [hS2]; exact sub_with (sub_with (sub_with hsub hf0) hbN) hbR
    have hst : Fw.Sub st S2 := by rw [hS2]; exact Fw.Sub.new (Fw.Sub.new (Fw.Sub.new (Fw.Sub.refl st) (hfin _ (by omega))) (hfin _ (by omega))) (hfin _ (by omega))
    have hf2 : ∀ id, b4 + 1 ≤ id → S2 id = none := fun id hid => by rw [hS2, Store.get_set_ne (by omega), Store.get_set_ne (by omega), Store.get_set_ne (by omega)]; exact hfin _ (by omega)
    have hf0 : S2 (nx + 1) = some (.box (eFire f)) := hS2 ▸ (by rw [Store.get_set_ne (by omega), Store.get_set_ne (by omega), Store.get_set_same])
    have hbN : S2 b2 = some (.box (eNet N)) := hS2 ▸ (by rw [Store.get_set_ne (by omega), Store.get_set_same])
    have hbR : S2 b4 = some (.box [aFires R.1.log, aInts R.1.marks, aInts R.1.way, .int .i64 R.1.time]) := hS2 ▸ (by rw [Store.get_set_same])
    refine SRun.conv (ConvF.sub hc2) ?_
    clear hS2 hc2
    have hsub := Fw.Sub.refl S2
    have hfin := hf2
    obtain ⟨u, hu⟩ : ∃ u, u = nx1 := ⟨_, rfl⟩
    rw [← hu] at hnx ⊢
    clear hu
    have lt_35 : nx + 1 < u := by omega
    have lt_36 : b2 < u := by omega
    have lt_37 : b4 < u := by omega
    
    by_cases c7 : R.1.log.length = 0
    · have c8 : (R.1.log.length : Int) = 0 := by omega
      refine SRun.run 100 ?_; simp -implicitDefEqProofs only [↓qx, qr, ql, qb, qs1, qs2, qs3, qs4, qs5, nilA, clearA, Value.oneCell', forall_const, guards, idxA, indexVA, lenA, buildA, bsA, sliceA, ↓reduceIte, ne_eq, Nat.reduceAdd, Nat.reduceBNe, Nat.reduceMul, Nat.reduceSub, Int.reduceEq, Int.reduceNe, Int.reduceLT, Int.reduceLE, Int.reduceAdd, Int.reduceMul, Int.reduceSub, Int.reduceNeg, Nat.reduceBEq, Nat.reduceEqDiff, Nat.reduceLT, Nat.reduceLeDiff, Int.reduceToNat, tis, show Try.f3.results = #[Go.ResultVar.tmp 8] from rfl, h2, h7, h9, h10, lt_35, lt_36, lt_37, hf0, hbN, hbR,  tab, c8]
      refine fin_sub hst (hK _ ?_)
      omega
    have c8 : ¬ (R.1.log.length : Int) = 0 := by omega
    have q0 := Int.tmod_nonneg (R.1.log.length : Int) hha.1
    have q1 := Int.tmod_lt_of_pos ha (show (0 : Int) < (R.1.log.length : Int) by omega)
    obtain ⟨i, hi⟩ : ∃ i : Nat, ha.tmod (R.1.log.length : Int) = (i : Int) := ⟨(ha.tmod (R.1.log.length : Int)).toNat, by omega⟩
    rw [hi] at q1
    have hil : i < R.1.log.length := by omega
    refine SRun.run 100 ?_; simp -implicitDefEqProofs only [↓qx, qr, ql, qb, qs1, qs2, qs3, qs4, qs5, nilA, clearA, Value.oneCell', forall_const, guards, idxA, indexVA, lenA, buildA, bsA, sliceA, ↓reduceIte, ne_eq, Nat.reduceAdd, Nat.reduceBNe, Nat.reduceMul, Nat.reduceSub, Int.reduceEq, Int.reduceNe, Int.reduceLT, Int.reduceLE, Int.reduceAdd, Int.reduceMul, Int.reduceSub, Int.reduceNeg, Nat.reduceBEq, Nat.reduceEqDiff, Nat.reduceLT, Nat.reduceLeDiff, Int.reduceToNat, tis, show Try.f3.results = #[Go.ResultVar.tmp 8] from rfl, h2, h7, h9, h10, lt_35, lt_36, lt_37, hf0, hbN, hbR,  tab, c8, hwa, hi]
    repeat (with_reducible refine And.intro ?_ ?_; focus (first | omega | (simp; done)))
    have hj := jrun_set hj1 hil f
    have hself : R.1.log.set i (R.1.log.getD i dFire) = R.1.log := by rw [List.getD_eq_getElem?_getD, List.getElem?_eq_getElem hil]; exact List.set_getElem_self hil
    obtain ⟨g, hg⟩ : ∃ g, R.1.log.getD i dFire = g := ⟨_, rfl⟩
    rw [hg] at hj hself
    have hsl : (R.1.log.set i f).length = R.1.log.length := List.length_set
    refine SCall.turn (st' := S2) ?_ (args' := [.agg (eNet N), aFires (R.1.log.set i f)]) (TnL.cons (Tn.same ?_ _) (TnL.cons (row_lt (enc := eFire) (d := dFire) (R.1.log.set i f) hsl (by repeat first | exact hsub | refine Sub.new ?_ (hfin _ (by omega)) | refine Sub.del ?_ (hfin _ (by omega)) | refine Sub.tag ?_ (hfin _ (by omega)) (hfin _ (by omega)) (fun p hp => hfin p (by first | (simp only [List.not_mem_nil] at hp; done) | (simp only [List.mem_cons, List.not_mem_nil, or_false] at hp; omega)))) (by exact Store.get_set_same _ _ _) (hfin u (by omega)) (fun j hj => ?_) (fun _ => rfl)) TnL.nil)) (replay_ok N (R.1.log.set i f) _ _ _ hNL (by omega) (fun b6 hb6 hz => absurd hchk hz) (fun k b6 hb6 _ hq => ?_) fun b6 hb6 _ hq => ?_)
    · exact (by repeat first | exact hsub | refine Sub.new ?_ (hfin _ (by omega)) | refine Sub.del ?_ (hfin _ (by omega)) | refine Sub.tag ?_ (hfin _ (by omega)) (hfin _ (by omega)) (fun p hp => hfin p (by first | (simp only [List.not_mem_nil] at hp; done) | (simp only [List.mem_cons, List.not_mem_nil, or_false] at hp; omega))))
    · exact (by repeat first | exact hsub | refine Sub.new ?_ (hfin _ (by omega)) | refine Sub.del ?_ (hfin _ (by omega)) | refine Sub.tag ?_ (hfin _ (by omega)) (hfin _ (by omega)) (fun p hp => hfin p (by first | (simp only [List.not_mem_nil] at hp; done) | (simp only [List.mem_cons, List.not_mem_nil, or_false] at hp; omega))))
    · rw [← rowset_t rfl hil j]
      by_cases e : j = i
      · subst e
        simp only [if_true]
        exact TnL.same (sub_del_of (by repeat first | exact hsub | refine Sub.new ?_ (hfin _ (by omega)) | refine Sub.del ?_ (hfin _ (by omega)) | refine Sub.tag ?_ (hfin _ (by omega)) (hfin _ (by omega)) (fun p hp => hfin p (by first | (simp only [List.not_mem_nil] at hp; done) | (simp only [List.mem_cons, List.not_mem_nil, or_false] at hp; omega)))) (hfin _ (by omega))) _
      · simp only [e, if_false]
        exact TnL.same (sub_del_of (by repeat first | exact hsub | refine Sub.new ?_ (hfin _ (by omega)) | refine Sub.del ?_ (hfin _ (by omega)) | refine Sub.tag ?_ (hfin _ (by omega)) (hfin _ (by omega)) (fun p hp => hfin p (by first | (simp only [List.not_mem_nil] at hp; done) | (simp only [List.mem_cons, List.not_mem_nil, or_false] at hp; omega)))) (hfin _ (by omega))) _
    · have hki := hj.2 k hq
      have hne : f ≠ g := fun e => by rw [e, hself, hj1] at hq; cases hq
      have hb : (decide (f.t = g.t) && decide (f.i = g.i)) = false := fire_ne hne
      have lt_38 : nx + 1 < b6 := by omega
      have lt_39 : b2 < b6 := by omega
      have lt_40 : b4 < b6 := by omega
      have lt_41 : u < b6 := by omega
      refine SRun.run 100 ?_; simp -implicitDefEqProofs only [↓qx, qr, ql, qb, qs1, qs2, qs3, qs4, qs5, nilA, clearA, Value.oneCell', forall_const, guards, idxA, indexVA, lenA, buildA, bsA, sliceA, ↓reduceIte, ne_eq, Nat.reduceAdd, Nat.reduceBNe, Nat.reduceMul, Nat.reduceSub, Int.reduceEq, Int.reduceNe, Int.reduceLT, Int.reduceLE, Int.reduceAdd, Int.reduceMul, Int.reduceSub, Int.reduceNeg, Nat.reduceBEq, Nat.reduceEqDiff, Nat.reduceLT, Nat.reduceLeDiff, Int.reduceToNat, tis, show Try.f3.results = #[Go.ResultVar.tmp 8] from rfl, h2, h7, h9, h10, lt_35, lt_36, lt_37, hf0, hbN, hbR, lt_38, lt_39, lt_40, lt_41,  tab]
      refine SRun.draw' (.quiet 0 false (.quiet 1 false (.quiet 2 false (.quiet 3 false (.quiet 4 false (.quiet 5 false (.quiet 6 false .done))))))) mixed (by kernel_rfl) ?_
      simp -implicitDefEqProofs only [↓qx, qr, ql, qb, qs1, qs2, qs3, qs4, qs5, nilA, clearA, Value.oneCell', forall_const, guards, idxA, indexVA, lenA, buildA, bsA, sliceA, ↓reduceIte, ne_eq, Nat.reduceAdd, Nat.reduceBNe, Nat.reduceMul, Nat.reduceSub, Int.reduceEq, Int.reduceNe, Int.reduceLT, Int.reduceLE, Int.reduceAdd, Int.reduceMul, Int.reduceSub, Int.reduceNeg, Nat.reduceBEq, Nat.reduceEqDiff, Nat.reduceLT, Nat.reduceLeDiff, Int.reduceToNat, tis, show Try.f3.results = #[Go.ResultVar.tmp 8] from rfl, h2, h7, h9, h10, lt_35, lt_36, lt_37, hf0, hbN, hbR, lt_38, lt_39, lt_40, lt_41, tab, hg, hb]
      repeat (with_reducible refine And.intro ?_ ?_; focus (first | omega | (simp; done)))
      refine SRun.run 100 ?_; simp -implicitDefEqProofs only [↓qx, qr, ql, qb, qs1, qs2, qs3, qs4, qs5, nilA, clearA, Value.oneCell', forall_const, guards, idxA, indexVA, lenA, buildA, bsA, sliceA, ↓reduceIte, ne_eq, Nat.reduceAdd, Nat.reduceBNe, Nat.reduceMul, Nat.reduceSub, Int.reduceEq, Int.reduceNe, Int.reduceLT, Int.reduceLE, Int.reduceAdd, Int.reduceMul, Int.reduceSub, Int.reduceNeg, Nat.reduceBEq, Nat.reduceEqDiff, Nat.reduceLT, Nat.reduceLeDiff, Int.reduceToNat, tis, show Try.f3.results = #[Go.ResultVar.tmp 8] from rfl, h2, h7, h9, h10, lt_35, lt_36, lt_37, hf0, hbN, hbR, lt_38, lt_39, lt_40, lt_41,  tab, hb]
      by_cases ht : f.t = g.t
      · have hk3 := hj.1 ht hne
        rw [hq] at hk3
        injection hk3 with hk3
        subst hk3
        refine SRun.draw' (.quiet 0 false (.quiet 1 false (.quiet 2 false (.quiet 3 false (.quiet 4 false (.quiet 5 false (.quiet 6 false (.quiet 7 false (.quiet 8 false .done))))))))) mixed (by kernel_rfl) ?_
        simp -implicitDefEqProofs only [↓qx, qr, ql, qb, qs1, qs2, qs3, qs4, qs5, nilA, clearA, Value.oneCell', forall_const, guards, idxA, indexVA, lenA, buildA, bsA, sliceA, ↓reduceIte, ne_eq, Nat.reduceAdd, Nat.reduceBNe, Nat.reduceMul, Nat.reduceSub, Int.reduceEq, Int.reduceNe, Int.reduceLT, Int.reduceLE, Int.reduceAdd, Int.reduceMul, Int.reduceSub, Int.reduceNeg, Nat.reduceBEq, Nat.reduceEqDiff, Nat.reduceLT, Nat.reduceLeDiff, Int.reduceToNat, tis, show Try.f3.results = #[Go.ResultVar.tmp 8] from rfl, h2, h7, h9, h10, lt_35, lt_36, lt_37, hf0, hbN, hbR, lt_38, lt_39, lt_40, lt_41, tab, hg, ht]
        repeat (with_reducible refine And.intro ?_ ?_; focus (first | omega | (simp; done)))
        refine SRun.run 100 ?_; simp -implicitDefEqProofs only [↓qx, qr, ql, qb, qs1, qs2, qs3, qs4, qs5, nilA, clearA, Value.oneCell', forall_const, guards, idxA, indexVA, lenA, buildA, bsA, sliceA, ↓reduceIte, ne_eq, Nat.reduceAdd, Nat.reduceBNe, Nat.reduceMul, Nat.reduceSub, Int.reduceEq, Int.reduceNe, Int.reduceLT, Int.reduceLE, Int.reduceAdd, Int.reduceMul, Int.reduceSub, Int.reduceNeg, Nat.reduceBEq, Nat.reduceEqDiff, Nat.reduceLT, Nat.reduceLeDiff, Int.reduceToNat, tis, show Try.f3.results = #[Go.ResultVar.tmp 8] from rfl, h2, h7, h9, h10, lt_35, lt_36, lt_37, hf0, hbN, hbR, lt_38, lt_39, lt_40, lt_41,  tab]
        refine fin_sub hst (hK _ ?_)
        omega
      · have hge : (i : Int) ≤ (k : Int) := by omega
        refine SRun.draw' (.quiet 0 false (.quiet 1 false (.quiet 2 false (.quiet 3 false (.quiet 4 false (.quiet 5 false (.quiet 6 false (.quiet 7 false (.quiet 8 false .done))))))))) mixed (by kernel_rfl) ?_
        simp -implicitDefEqProofs only [↓qx, qr, ql, qb, qs1, qs2, qs3, qs4, qs5, nilA, clearA, Value.oneCell', forall_const, guards, idxA, indexVA, lenA, buildA, bsA, sliceA, ↓reduceIte, ne_eq, Nat.reduceAdd, Nat.reduceBNe, Nat.reduceMul, Nat.reduceSub, Int.reduceEq, Int.reduceNe, Int.reduceLT, Int.reduceLE, Int.reduceAdd, Int.reduceMul, Int.reduceSub, Int.reduceNeg, Nat.reduceBEq, Nat.reduceEqDiff, Nat.reduceLT, Nat.reduceLeDiff, Int.reduceToNat, tis, show Try.f3.results = #[Go.ResultVar.tmp 8] from rfl, h2, h7, h9, h10, lt_35, lt_36, lt_37, hf0, hbN, hbR, lt_38, lt_39, lt_40, lt_41, tab, hg, ht]
        repeat (with_reducible refine And.intro ?_ ?_; focus (first | omega | (simp; done)))
        refine SRun.run 100 ?_; simp -implicitDefEqProofs only [↓qx, qr, ql, qb, qs1, qs2, qs3, qs4, qs5, nilA, clearA, Value.oneCell', forall_const, guards, idxA, indexVA, lenA, buildA, bsA, sliceA, ↓reduceIte, ne_eq, Nat.reduceAdd, Nat.reduceBNe, Nat.reduceMul, Nat.reduceSub, Int.reduceEq, Int.reduceNe, Int.reduceLT, Int.reduceLE, Int.reduceAdd, Int.reduceMul, Int.reduceSub, Int.reduceNeg, Nat.reduceBEq, Nat.reduceEqDiff, Nat.reduceLT, Nat.reduceLeDiff, Int.reduceToNat, tis, show Try.f3.results = #[Go.ResultVar.tmp 8] from rfl, h2, h7, h9, h10, lt_35, lt_36, lt_37, hf0, hbN, hbR, lt_38, lt_39, lt_40, lt_41,  tab, hge]
        refine fin_sub hst (hK _ ?_)
        omega
    · have lt_42 : nx + 1 < b6 := by omega
      have lt_43 : b2 < b6 := by omega
      have lt_44 : b4 < b6 := by omega
      have lt_45 : u < b6 := by omega
      by_cases hfg : f = g
      · have e1 : f.t = g.t := by rw [hfg]
        have e2 : f.i = g.i := by rw [hfg]
        refine SRun.run 100 ?_; simp -implicitDefEqProofs only [↓qx, qr, ql, qb, qs1, qs2, qs3, qs4, qs5, nilA, clearA, Value.oneCell', forall_const, guards, idxA, indexVA, lenA, buildA, bsA, sliceA, ↓reduceIte, ne_eq, Nat.reduceAdd, Nat.reduceBNe, Nat.reduceMul, Nat.reduceSub, Int.reduceEq, Int.reduceNe, Int.reduceLT, Int.reduceLE, Int.reduceAdd, Int.reduceMul, Int.reduceSub, Int.reduceNeg, Nat.reduceBEq, Nat.reduceEqDiff, Nat.reduceLT, Nat.reduceLeDiff, Int.reduceToNat, tis, show Try.f3.results = #[Go.ResultVar.tmp 8] from rfl, h2, h7, h9, h10, lt_35, lt_36, lt_37, hf0, hbN, hbR, lt_42, lt_43, lt_44, lt_45,  tab]
        refine SRun.draw' (.quiet 0 false (.quiet 1 false (.quiet 2 false (.quiet 3 false (.quiet 4 false (.quiet 5 false (.quiet 6 false .done))))))) mixed (by kernel_rfl) ?_
        simp -implicitDefEqProofs only [↓qx, qr, ql, qb, qs1, qs2, qs3, qs4, qs5, nilA, clearA, Value.oneCell', forall_const, guards, idxA, indexVA, lenA, buildA, bsA, sliceA, ↓reduceIte, ne_eq, Nat.reduceAdd, Nat.reduceBNe, Nat.reduceMul, Nat.reduceSub, Int.reduceEq, Int.reduceNe, Int.reduceLT, Int.reduceLE, Int.reduceAdd, Int.reduceMul, Int.reduceSub, Int.reduceNeg, Nat.reduceBEq, Nat.reduceEqDiff, Nat.reduceLT, Nat.reduceLeDiff, Int.reduceToNat, tis, show Try.f3.results = #[Go.ResultVar.tmp 8] from rfl, h2, h7, h9, h10, lt_35, lt_36, lt_37, hf0, hbN, hbR, lt_42, lt_43, lt_44, lt_45, tab, hg, e1, e2]
        repeat (with_reducible refine And.intro ?_ ?_; focus (first | omega | (simp; done)))
        refine SRun.run 100 ?_; simp -implicitDefEqProofs only [↓qx, qr, ql, qb, qs1, qs2, qs3, qs4, qs5, nilA, clearA, Value.oneCell', forall_const, guards, idxA, indexVA, lenA, buildA, bsA, sliceA, ↓reduceIte, ne_eq, Nat.reduceAdd, Nat.reduceBNe, Nat.reduceMul, Nat.reduceSub, Int.reduceEq, Int.reduceNe, Int.reduceLT, Int.reduceLE, Int.reduceAdd, Int.reduceMul, Int.reduceSub, Int.reduceNeg, Nat.reduceBEq, Nat.reduceEqDiff, Nat.reduceLT, Nat.reduceLeDiff, Int.reduceToNat, tis, show Try.f3.results = #[Go.ResultVar.tmp 8] from rfl, h2, h7, h9, h10, lt_35, lt_36, lt_37, hf0, hbN, hbR, lt_42, lt_43, lt_44, lt_45,  tab]
        refine fin_sub hst (hK _ ?_)
        omega
      · have hb : (decide (f.t = g.t) && decide (f.i = g.i)) = false := fire_ne hfg
        by_cases ht : f.t = g.t
        · have hk3 := hj.1 ht hfg
          rw [hq] at hk3
          cases hk3
        · refine SRun.run 100 ?_; simp -implicitDefEqProofs only [↓qx, qr, ql, qb, qs1, qs2, qs3, qs4, qs5, nilA, clearA, Value.oneCell', forall_const, guards, idxA, indexVA, lenA, buildA, bsA, sliceA, ↓reduceIte, ne_eq, Nat.reduceAdd, Nat.reduceBNe, Nat.reduceMul, Nat.reduceSub, Int.reduceEq, Int.reduceNe, Int.reduceLT, Int.reduceLE, Int.reduceAdd, Int.reduceMul, Int.reduceSub, Int.reduceNeg, Nat.reduceBEq, Nat.reduceEqDiff, Nat.reduceLT, Nat.reduceLeDiff, Int.reduceToNat, tis, show Try.f3.results = #[Go.ResultVar.tmp 8] from rfl, h2, h7, h9, h10, lt_35, lt_36, lt_37, hf0, hbN, hbR, lt_42, lt_43, lt_44, lt_45,  tab]
          refine SRun.draw' (.quiet 0 false (.quiet 1 false (.quiet 2 false (.quiet 3 false (.quiet 4 false (.quiet 5 false (.quiet 6 false .done))))))) mixed (by kernel_rfl) ?_
          simp -implicitDefEqProofs only [↓qx, qr, ql, qb, qs1, qs2, qs3, qs4, qs5, nilA, clearA, Value.oneCell', forall_const, guards, idxA, indexVA, lenA, buildA, bsA, sliceA, ↓reduceIte, ne_eq, Nat.reduceAdd, Nat.reduceBNe, Nat.reduceMul, Nat.reduceSub, Int.reduceEq, Int.reduceNe, Int.reduceLT, Int.reduceLE, Int.reduceAdd, Int.reduceMul, Int.reduceSub, Int.reduceNeg, Nat.reduceBEq, Nat.reduceEqDiff, Nat.reduceLT, Nat.reduceLeDiff, Int.reduceToNat, tis, show Try.f3.results = #[Go.ResultVar.tmp 8] from rfl, h2, h7, h9, h10, lt_35, lt_36, lt_37, hf0, hbN, hbR, lt_42, lt_43, lt_44, lt_45, tab, hg, hb]
          repeat (with_reducible refine And.intro ?_ ?_; focus (first | omega | (simp; done)))
          refine SRun.run 100 ?_; simp -implicitDefEqProofs only [↓qx, qr, ql, qb, qs1, qs2, qs3, qs4, qs5, nilA, clearA, Value.oneCell', forall_const, guards, idxA, indexVA, lenA, buildA, bsA, sliceA, ↓reduceIte, ne_eq, Nat.reduceAdd, Nat.reduceBNe, Nat.reduceMul, Nat.reduceSub, Int.reduceEq, Int.reduceNe, Int.reduceLT, Int.reduceLE, Int.reduceAdd, Int.reduceMul, Int.reduceSub, Int.reduceNeg, Nat.reduceBEq, Nat.reduceEqDiff, Nat.reduceLT, Nat.reduceLeDiff, Int.reduceToNat, tis, show Try.f3.results = #[Go.ResultVar.tmp 8] from rfl, h2, h7, h9, h10, lt_35, lt_36, lt_37, hf0, hbN, hbR, lt_42, lt_43, lt_44, lt_45,  tab, hb]
          refine SRun.draw' (.quiet 0 false (.quiet 1 false (.quiet 2 false (.quiet 3 false (.quiet 4 false (.quiet 5 false (.quiet 6 false (.quiet 7 false (.quiet 8 false .done))))))))) mixed (by kernel_rfl) ?_
          simp -implicitDefEqProofs only [↓qx, qr, ql, qb, qs1, qs2, qs3, qs4, qs5, nilA, clearA, Value.oneCell', forall_const, guards, idxA, indexVA, lenA, buildA, bsA, sliceA, ↓reduceIte, ne_eq, Nat.reduceAdd, Nat.reduceBNe, Nat.reduceMul, Nat.reduceSub, Int.reduceEq, Int.reduceNe, Int.reduceLT, Int.reduceLE, Int.reduceAdd, Int.reduceMul, Int.reduceSub, Int.reduceNeg, Nat.reduceBEq, Nat.reduceEqDiff, Nat.reduceLT, Nat.reduceLeDiff, Int.reduceToNat, tis, show Try.f3.results = #[Go.ResultVar.tmp 8] from rfl, h2, h7, h9, h10, lt_35, lt_36, lt_37, hf0, hbN, hbR, lt_42, lt_43, lt_44, lt_45, tab, hg, ht]
          repeat (with_reducible refine And.intro ?_ ?_; focus (first | omega | (simp; done)))
          refine SRun.run 100 ?_; simp -implicitDefEqProofs only [↓qx, qr, ql, qb, qs1, qs2, qs3, qs4, qs5, nilA, clearA, Value.oneCell', forall_const, guards, idxA, indexVA, lenA, buildA, bsA, sliceA, ↓reduceIte, ne_eq, Nat.reduceAdd, Nat.reduceBNe, Nat.reduceMul, Nat.reduceSub, Int.reduceEq, Int.reduceNe, Int.reduceLT, Int.reduceLE, Int.reduceAdd, Int.reduceMul, Int.reduceSub, Int.reduceNeg, Nat.reduceBEq, Nat.reduceEqDiff, Nat.reduceLT, Nat.reduceLeDiff, Int.reduceToNat, tis, show Try.f3.results = #[Go.ResultVar.tmp 8] from rfl, h2, h7, h9, h10, lt_35, lt_36, lt_37, hf0, hbN, hbR, lt_42, lt_43, lt_44, lt_45,  tab]
          refine fin_sub hst (hK _ ?_)
          omega
  have hE := hj4 c4.symm
  rw [← hE.m, ← hE.w]
  refine SRun.run 100 ?_; simp -implicitDefEqProofs only [↓qx, qr, ql, qb, qs1, qs2, qs3, qs4, qs5, nilA, clearA, Value.oneCell', forall_const, guards, idxA, indexVA, lenA, buildA, bsA, sliceA, ↓reduceIte, ne_eq, Nat.reduceAdd, Nat.reduceBNe, Nat.reduceMul, Nat.reduceSub, Int.reduceEq, Int.reduceNe, Int.reduceLT, Int.reduceLE, Int.reduceAdd, Int.reduceMul, Int.reduceSub, Int.reduceNeg, Nat.reduceBEq, Nat.reduceEqDiff, Nat.reduceLT, Nat.reduceLeDiff, Int.reduceToNat, tis, show Try.f3.results = #[Go.ResultVar.tmp 8] from rfl, lt_0, lt_1, lt_2, lt_3, lt_4, lt_5, lt_6, lt_7, lt_8, lt_9, lt_10, lt_11, lt_12,  tab, c1, c3, c4]
  obtain ⟨I1, hI1⟩ : ∃ I : Nat → Fr → Store → Nat → Prop, I = fun μ fr st1 nx1 => ∃ k : Nat, k ≤ P ∧ μ = P - k ∧ fr 2 = .int .u8 ha ∧ fr 7 = .bp (nx + 1) 0 ∧ fr 9 = .bp b2 0 ∧ fr 10 = .bp b4 0 ∧ fr 12 = .bp b5 0 ∧ fr 15 = .int .i64 (k : Int) ∧ (st1 (nx + 1) = some (.box (eFire f))) ∧ (st1 b2 = some (.box (eNet N))) ∧ (st1 b4 = some (.box [aFires R.1.log, aInts R.1.marks, aInts R.1.way, .int .i64 R.1.time])) ∧ (st1 b5 = some (.box [aFires R.1.log, aInts R.1.marks, aInts R.1.way, .int .i64 J.time])) ∧ (Fw.Sub st st1) ∧ (b5 < nx1) := ⟨_, rfl⟩
  refine SRun.loopC I1 (P - 0) (by subst hI1; refine ⟨0, by omega, rfl, ?_, ?_, ?_, ?_, ?_, ?_, by simp -implicitDefEqProofs only [↓qx, qr, ql, qb, qs1, qs2, qs3, qs4, qs5, nilA, clearA, Value.oneCell', forall_const, guards, idxA, indexVA, lenA, buildA, bsA, sliceA, ↓reduceIte, ne_eq, Nat.reduceAdd, Nat.reduceBNe, Nat.reduceMul, Nat.reduceSub, Int.reduceEq, Int.reduceNe, Int.reduceLT, Int.reduceLE, Int.reduceAdd, Int.reduceMul, Int.reduceSub, Int.reduceNeg, Nat.reduceBEq, Nat.reduceEqDiff, Nat.reduceLT, Nat.reduceLeDiff, Int.reduceToNat, tis, show Try.f3.results = #[Go.ResultVar.tmp 8] from rfl, lt_0, lt_1, lt_2, lt_3, lt_4, lt_5, lt_6, lt_7, lt_8, lt_9, lt_10, lt_11, lt_12], by simp -implicitDefEqProofs only [↓qx, qr, ql, qb, qs1, qs2, qs3, qs4, qs5, nilA, clearA, Value.oneCell', forall_const, guards, idxA, indexVA, lenA, buildA, bsA, sliceA, ↓reduceIte, ne_eq, Nat.reduceAdd, Nat.reduceBNe, Nat.reduceMul, Nat.reduceSub, Int.reduceEq, Int.reduceNe, Int.reduceLT, Int.reduceLE, Int.reduceAdd, Int.reduceMul, Int.reduceSub, Int.reduceNeg, Nat.reduceBEq, Nat.reduceEqDiff, Nat.reduceLT, Nat.reduceLeDiff, Int.reduceToNat, tis, show Try.f3.results = #[Go.ResultVar.tmp 8] from rfl, lt_0, lt_1, lt_2, lt_3, lt_4, lt_5, lt_6, lt_7, lt_8, lt_9, lt_10, lt_11, lt_12], (by simp -implicitDefEqProofs only [↓qx, qr, ql, qb, qs1, qs2, qs3, qs4, qs5, nilA, clearA, Value.oneCell', forall_const, guards, idxA, indexVA, lenA, buildA, bsA, sliceA, ↓reduceIte, ne_eq, Nat.reduceAdd, Nat.reduceBNe, Nat.reduceMul, Nat.reduceSub, Int.reduceEq, Int.reduceNe, Int.reduceLT, Int.reduceLE, Int.reduceAdd, Int.reduceMul, Int.reduceSub, Int.reduceNeg, Nat.reduceBEq, Nat.reduceEqDiff, Nat.reduceLT, Nat.reduceLeDiff, Int.reduceToNat, tis, show Try.f3.results = #[Go.ResultVar.tmp 8] from rfl, lt_0, lt_1, lt_2, lt_3, lt_4, lt_5, lt_6, lt_7, lt_8, lt_9, lt_10, lt_11, lt_12, c4]; first | done | rfl), (by simp -implicitDefEqProofs only [↓qx, qr, ql, qb, qs1, qs2, qs3, qs4, qs5, nilA, clearA, Value.oneCell', forall_const, guards, idxA, indexVA, lenA, buildA, bsA, sliceA, ↓reduceIte, ne_eq, Nat.reduceAdd, Nat.reduceBNe, Nat.reduceMul, Nat.reduceSub, Int.reduceEq, Int.reduceNe, Int.reduceLT, Int.reduceLE, Int.reduceAdd, Int.reduceMul, Int.reduceSub, Int.reduceNeg, Nat.reduceBEq, Nat.reduceEqDiff, Nat.reduceLT, Nat.reduceLeDiff, Int.reduceToNat, tis, show Try.f3.results = #[Go.ResultVar.tmp 8] from rfl, lt_0, lt_1, lt_2, lt_3, lt_4, lt_5, lt_6, lt_7, lt_8, lt_9, lt_10, lt_11, lt_12]; first | done | rfl), (by repeat first | exact hsub | refine Sub.new ?_ (hfin _ (by omega)) | refine Sub.del ?_ (hfin _ (by omega)) | refine Sub.tag ?_ (hfin _ (by omega)) (hfin _ (by omega)) (fun p hp => hfin p (by first | (simp only [List.not_mem_nil] at hp; done) | (simp only [List.mem_cons, List.not_mem_nil, or_false] at hp; omega)))), (by omega)⟩ <;> first | done | (simp -implicitDefEqProofs only [↓qx, qr, ql, qb, qs1, qs2, qs3, qs4, qs5, nilA, clearA, Value.oneCell', forall_const, guards, idxA, indexVA, lenA, buildA, bsA, sliceA, ↓reduceIte, ne_eq, Nat.reduceAdd, Nat.reduceBNe, Nat.reduceMul, Nat.reduceSub, Int.reduceEq, Int.reduceNe, Int.reduceLT, Int.reduceLE, Int.reduceAdd, Int.reduceMul, Int.reduceSub, Int.reduceNeg, Nat.reduceBEq, Nat.reduceEqDiff, Nat.reduceLT, Nat.reduceLeDiff, Int.reduceToNat, tis, show Try.f3.results = #[Go.ResultVar.tmp 8] from rfl, lt_0, lt_1, lt_2, lt_3, lt_4, lt_5, lt_6, lt_7, lt_8, lt_9, lt_10, lt_11, lt_12, Int.natCast_zero, tab]; first | done | rfl)) ?_
  intro μ fr st1 nx1 hIn
  have hIn' := hIn
  rw [hI1] at hIn'
  obtain ⟨k, hk, hμ, h2, h7, h9, h10, h12, h15, hf0, hbN, hbR, hbX, hsub, hnx⟩ := hIn'
  
  by_cases hlt : k < P
  · have hlt1 : (k : Int) < (P : Int) := by omega
    have hltP : (k : Int) < (N.places.length : Int) := by omega
    have hk2 : IntKind.i64.wrap ((k : Int) + 1) = ((k + 1 : Nat) : Int) := wrap_of (by omega) (by omega)
    refine SRun.run 100 ?_; simp -implicitDefEqProofs only [↓qx, qr, ql, qb, qs1, qs2, qs3, qs4, qs5, nilA, clearA, Value.oneCell', forall_const, guards, idxA, indexVA, lenA, buildA, bsA, sliceA, ↓reduceIte, ne_eq, Nat.reduceAdd, Nat.reduceBNe, Nat.reduceMul, Nat.reduceSub, Int.reduceEq, Int.reduceNe, Int.reduceLT, Int.reduceLE, Int.reduceAdd, Int.reduceMul, Int.reduceSub, Int.reduceNeg, Nat.reduceBEq, Nat.reduceEqDiff, Nat.reduceLT, Nat.reduceLeDiff, Int.reduceToNat, tis, show Try.f3.results = #[Go.ResultVar.tmp 8] from rfl, h2, h7, h9, h10, h12, h15, hf0, hbN, hbR, hbX,  tab, hltP]
    refine SRun.draw' (.quiet 0 false (.quiet 1 false (.quiet 2 false (.quiet 3 false (.quiet 4 false (.quiet 5 false (.quiet 6 false (.quiet 7 false (.quiet 8 false (.quiet 9 false (.quiet 10 false (.quiet 11 true (.quiet 12 false (.quiet 13 false (.quiet 14 false (.quiet 15 false (.quiet 16 false (.quiet 17 false (.quiet 18 false (.quiet 19 false (.quiet 20 false (.quiet 21 false (.quiet 22 false (.quiet 23 false .done)))))))))))))))))))))))) mixed (by kernel_rfl) ?_
    simp -implicitDefEqProofs only [↓qx, qr, ql, qb, qs1, qs2, qs3, qs4, qs5, nilA, clearA, Value.oneCell', forall_const, guards, idxA, indexVA, lenA, buildA, bsA, sliceA, ↓reduceIte, ne_eq, Nat.reduceAdd, Nat.reduceBNe, Nat.reduceMul, Nat.reduceSub, Int.reduceEq, Int.reduceNe, Int.reduceLT, Int.reduceLE, Int.reduceAdd, Int.reduceMul, Int.reduceSub, Int.reduceNeg, Nat.reduceBEq, Nat.reduceEqDiff, Nat.reduceLT, Nat.reduceLeDiff, Int.reduceToNat, tis, show Try.f3.results = #[Go.ResultVar.tmp 8] from rfl, h2, h7, h9, h10, h12, h15, hf0, hbN, hbR, hbX, tab]
    repeat (with_reducible refine And.intro ?_ ?_; focus (first | omega | (simp; done)))
    refine SRun.run 100 ?_; simp -implicitDefEqProofs only [↓qx, qr, ql, qb, qs1, qs2, qs3, qs4, qs5, nilA, clearA, Value.oneCell', forall_const, guards, idxA, indexVA, lenA, buildA, bsA, sliceA, ↓reduceIte, ne_eq, Nat.reduceAdd, Nat.reduceBNe, Nat.reduceMul, Nat.reduceSub, Int.reduceEq, Int.reduceNe, Int.reduceLT, Int.reduceLE, Int.reduceAdd, Int.reduceMul, Int.reduceSub, Int.reduceNeg, Nat.reduceBEq, Nat.reduceEqDiff, Nat.reduceLT, Nat.reduceLeDiff, Int.reduceToNat, tis, show Try.f3.results = #[Go.ResultVar.tmp 8] from rfl, h2, h7, h9, h10, h12, h15, hf0, hbN, hbR, hbX,  tab]
    (try rw [wrap_succ (n := P) (by omega) (by omega)])
    rw [hI1]
    refine ⟨_, _, _, ConvF.refl _ _ _, ?_⟩
    refine ⟨P - (k + 1), by omega, k + 1, by omega, rfl, ?_, ?_, ?_, ?_, ?_, ?_, hf0, hbN, hbR, hbX, hsub, hnx⟩ <;> first | done | (simp -implicitDefEqProofs only [↓qx, qr, ql, qb, qs1, qs2, qs3, qs4, qs5, nilA, clearA, Value.oneCell', forall_const, guards, idxA, indexVA, lenA, buildA, bsA, sliceA, ↓reduceIte, ne_eq, Nat.reduceAdd, Nat.reduceBNe, Nat.reduceMul, Nat.reduceSub, Int.reduceEq, Int.reduceNe, Int.reduceLT, Int.reduceLE, Int.reduceAdd, Int.reduceMul, Int.reduceSub, Int.reduceNeg, Nat.reduceBEq, Nat.reduceEqDiff, Nat.reduceLT, Nat.reduceLeDiff, Int.reduceToNat, tis, show Try.f3.results = #[Go.ResultVar.tmp 8] from rfl, h2, h7, h9, h10, h12, h15, hf0, hbN, hbR, hbX, tab, hk2]; first | done | rfl)
  have hltP : ¬ (k : Int) < (N.places.length : Int) := by omega
  refine SRun.run 12 ?_; simp -implicitDefEqProofs only [↓qx, qr, ql, qb, qs1, qs2, qs3, qs4, qs5, nilA, clearA, Value.oneCell', forall_const, guards, idxA, indexVA, lenA, buildA, bsA, sliceA, ↓reduceIte, ne_eq, Nat.reduceAdd, Nat.reduceBNe, Nat.reduceMul, Nat.reduceSub, Int.reduceEq, Int.reduceNe, Int.reduceLT, Int.reduceLE, Int.reduceAdd, Int.reduceMul, Int.reduceSub, Int.reduceNeg, Nat.reduceBEq, Nat.reduceEqDiff, Nat.reduceLT, Nat.reduceLeDiff, Int.reduceToNat, tis, show Try.f3.results = #[Go.ResultVar.tmp 8] from rfl, h2, h7, h9, h10, h12, h15, hf0, hbN, hbR, hbX,  tab, hltP]
  refine SRun.gen (fun fr st1 nx1 => fr 2 = .int .u8 ha ∧ fr 7 = .bp (nx + 1) 0 ∧ fr 9 = .bp b2 0 ∧ fr 10 = .bp b4 0 ∧ (st1 (nx + 1) = some (.box (eFire f))) ∧ (st1 b2 = some (.box (eNet N))) ∧ (st1 b4 = some (.box [aFires R.1.log, aInts R.1.marks, aInts R.1.way, .int .i64 R.1.time])) ∧ (Fw.Sub st st1) ∧ (b4 < nx1)) (by refine ⟨_, _, _, ConvF.refl _ _ _, ?_⟩; refine ⟨?_, ?_, ?_, ?_, by simp -implicitDefEqProofs only [↓qx, qr, ql, qb, qs1, qs2, qs3, qs4, qs5, nilA, clearA, Value.oneCell', forall_const, guards, idxA, indexVA, lenA, buildA, bsA, sliceA, ↓reduceIte, ne_eq, Nat.reduceAdd, Nat.reduceBNe, Nat.reduceMul, Nat.reduceSub, Int.reduceEq, Int.reduceNe, Int.reduceLT, Int.reduceLE, Int.reduceAdd, Int.reduceMul, Int.reduceSub, Int.reduceNeg, Nat.reduceBEq, Nat.reduceEqDiff, Nat.reduceLT, Nat.reduceLeDiff, Int.reduceToNat, tis, show Try.f3.results = #[Go.ResultVar.tmp 8] from rfl, h2, h7, h9, h10, h12, h15, hf0, hbN, hbR, hbX], by simp -implicitDefEqProofs only [↓qx, qr, ql, qb, qs1, qs2, qs3, qs4, qs5, nilA, clearA, Value.oneCell', forall_const, guards, idxA, indexVA, lenA, buildA, bsA, sliceA, ↓reduceIte, ne_eq, Nat.reduceAdd, Nat.reduceBNe, Nat.reduceMul, Nat.reduceSub, Int.reduceEq, Int.reduceNe, Int.reduceLT, Int.reduceLE, Int.reduceAdd, Int.reduceMul, Int.reduceSub, Int.reduceNeg, Nat.reduceBEq, Nat.reduceEqDiff, Nat.reduceLT, Nat.reduceLeDiff, Int.reduceToNat, tis, show Try.f3.results = #[Go.ResultVar.tmp 8] from rfl, h2, h7, h9, h10, h12, h15, hf0, hbN, hbR, hbX], (by simp -implicitDefEqProofs only [↓qx, qr, ql, qb, qs1, qs2, qs3, qs4, qs5, nilA, clearA, Value.oneCell', forall_const, guards, idxA, indexVA, lenA, buildA, bsA, sliceA, ↓reduceIte, ne_eq, Nat.reduceAdd, Nat.reduceBNe, Nat.reduceMul, Nat.reduceSub, Int.reduceEq, Int.reduceNe, Int.reduceLT, Int.reduceLE, Int.reduceAdd, Int.reduceMul, Int.reduceSub, Int.reduceNeg, Nat.reduceBEq, Nat.reduceEqDiff, Nat.reduceLT, Nat.reduceLeDiff, Int.reduceToNat, tis, show Try.f3.results = #[Go.ResultVar.tmp 8] from rfl, h2, h7, h9, h10, h12, h15, hf0, hbN, hbR, hbX]; first | done | rfl), (by repeat first | exact hsub | refine Sub.new ?_ (hfin _ (by omega)) | refine Sub.del ?_ (hfin _ (by omega)) | refine Sub.tag ?_ (hfin _ (by omega)) (hfin _ (by omega)) (fun p hp => hfin p (by first | (simp only [List.not_mem_nil] at hp; done) | (simp only [List.mem_cons, List.not_mem_nil, or_false] at hp; omega)))), (by omega)⟩ <;> first | done | (simp -implicitDefEqProofs only [↓qx, qr, ql, qb, qs1, qs2, qs3, qs4, qs5, nilA, clearA, Value.oneCell', forall_const, guards, idxA, indexVA, lenA, buildA, bsA, sliceA, ↓reduceIte, ne_eq, Nat.reduceAdd, Nat.reduceBNe, Nat.reduceMul, Nat.reduceSub, Int.reduceEq, Int.reduceNe, Int.reduceLT, Int.reduceLE, Int.reduceAdd, Int.reduceMul, Int.reduceSub, Int.reduceNeg, Nat.reduceBEq, Nat.reduceEqDiff, Nat.reduceLT, Nat.reduceLeDiff, Int.reduceToNat, tis, show Try.f3.results = #[Go.ResultVar.tmp 8] from rfl, h2, h7, h9, h10, h12, h15, hf0, hbN, hbR, hbX, tab]; first | done | rfl)) ?_
  intro fr st1 nx1 hJ
  obtain ⟨h2, h7, h9, h10, hf0, hbN, hbR, hsub, hnx⟩ := hJ
  obtain ⟨S2, hS2⟩ : ∃ S2, S2 = ((st.set (nx + 1) (.box (eFire f))).set b2 (.box (eNet N))).set b4 (.box [aFires R.1.log, aInts R.1.marks, aInts R.1.way, .int .i64 R.1.time]) := ⟨_, rfl⟩
  have hc2 : Fw.Sub S2 st1 := by rw [hS2]; exact sub_with (sub_with (sub_with hsub hf0) hbN) hbR
  have hst : Fw.Sub st S2 := by rw [hS2]; exact Fw.Sub.new (Fw.Sub.new (Fw.Sub.new (Fw.Sub.refl st) (hfin _ (by omega))) (hfin _ (by omega))) (hfin _ (by omega))
  have hf2 : ∀ id, b4 + 1 ≤ id → S2 id = none := fun id hid => by rw [hS2, Store.get_set_ne (by omega), Store.get_set_ne (by omega), Store.get_set_ne (by omega)]; exact hfin _ (by omega)
  have hf0 : S2 (nx + 1) = some (.box (eFire f)) := hS2 ▸ (by rw [Store.get_set_ne (by omega), Store.get_set_ne (by omega), Store.get_set_same])
  have hbN : S2 b2 = some (.box (eNet N)) := hS2 ▸ (by rw [Store.get_set_ne (by omega), Store.get_set_same])
  have hbR : S2 b4 = some (.box [aFires R.1.log, aInts R.1.marks, aInts R.1.way, .int .i64 R.1.time]) := hS2 ▸ (by rw [Store.get_set_same])
  refine SRun.conv (ConvF.sub hc2) ?_
  clear hS2 hc2
  have hsub := Fw.Sub.refl S2
  have hfin := hf2
  obtain ⟨u, hu⟩ : ∃ u, u = nx1 := ⟨_, rfl⟩
  rw [← hu] at hnx ⊢
  clear hu
  have lt_46 : nx + 1 < u := by omega
  have lt_47 : b2 < u := by omega
  have lt_48 : b4 < u := by omega
  
  by_cases c7 : R.1.log.length = 0
  · have c8 : (R.1.log.length : Int) = 0 := by omega
    refine SRun.run 100 ?_; simp -implicitDefEqProofs only [↓qx, qr, ql, qb, qs1, qs2, qs3, qs4, qs5, nilA, clearA, Value.oneCell', forall_const, guards, idxA, indexVA, lenA, buildA, bsA, sliceA, ↓reduceIte, ne_eq, Nat.reduceAdd, Nat.reduceBNe, Nat.reduceMul, Nat.reduceSub, Int.reduceEq, Int.reduceNe, Int.reduceLT, Int.reduceLE, Int.reduceAdd, Int.reduceMul, Int.reduceSub, Int.reduceNeg, Nat.reduceBEq, Nat.reduceEqDiff, Nat.reduceLT, Nat.reduceLeDiff, Int.reduceToNat, tis, show Try.f3.results = #[Go.ResultVar.tmp 8] from rfl, h2, h7, h9, h10, lt_46, lt_47, lt_48, hf0, hbN, hbR,  tab, c8]
    refine fin_sub hst (hK _ ?_)
    omega
  have c8 : ¬ (R.1.log.length : Int) = 0 := by omega
  have q0 := Int.tmod_nonneg (R.1.log.length : Int) hha.1
  have q1 := Int.tmod_lt_of_pos ha (show (0 : Int) < (R.1.log.length : Int) by omega)
  obtain ⟨i, hi⟩ : ∃ i : Nat, ha.tmod (R.1.log.length : Int) = (i : Int) := ⟨(ha.tmod (R.1.log.length : Int)).toNat, by omega⟩
  rw [hi] at q1
  have hil : i < R.1.log.length := by omega
  refine SRun.run 100 ?_; simp -implicitDefEqProofs only [↓qx, qr, ql, qb, qs1, qs2, qs3, qs4, qs5, nilA, clearA, Value.oneCell', forall_const, guards, idxA, indexVA, lenA, buildA, bsA, sliceA, ↓reduceIte, ne_eq, Nat.reduceAdd, Nat.reduceBNe, Nat.reduceMul, Nat.reduceSub, Int.reduceEq, Int.reduceNe, Int.reduceLT, Int.reduceLE, Int.reduceAdd, Int.reduceMul, Int.reduceSub, Int.reduceNeg, Nat.reduceBEq, Nat.reduceEqDiff, Nat.reduceLT, Nat.reduceLeDiff, Int.reduceToNat, tis, show Try.f3.results = #[Go.ResultVar.tmp 8] from rfl, h2, h7, h9, h10, lt_46, lt_47, lt_48, hf0, hbN, hbR,  tab, c8, hwa, hi]
  repeat (with_reducible refine And.intro ?_ ?_; focus (first | omega | (simp; done)))
  have hj := jrun_set hj1 hil f
  have hself : R.1.log.set i (R.1.log.getD i dFire) = R.1.log := by rw [List.getD_eq_getElem?_getD, List.getElem?_eq_getElem hil]; exact List.set_getElem_self hil
  obtain ⟨g, hg⟩ : ∃ g, R.1.log.getD i dFire = g := ⟨_, rfl⟩
  rw [hg] at hj hself
  have hsl : (R.1.log.set i f).length = R.1.log.length := List.length_set
  refine SCall.turn (st' := S2) ?_ (args' := [.agg (eNet N), aFires (R.1.log.set i f)]) (TnL.cons (Tn.same ?_ _) (TnL.cons (row_lt (enc := eFire) (d := dFire) (R.1.log.set i f) hsl (by repeat first | exact hsub | refine Sub.new ?_ (hfin _ (by omega)) | refine Sub.del ?_ (hfin _ (by omega)) | refine Sub.tag ?_ (hfin _ (by omega)) (hfin _ (by omega)) (fun p hp => hfin p (by first | (simp only [List.not_mem_nil] at hp; done) | (simp only [List.mem_cons, List.not_mem_nil, or_false] at hp; omega)))) (by exact Store.get_set_same _ _ _) (hfin u (by omega)) (fun j hj => ?_) (fun _ => rfl)) TnL.nil)) (replay_ok N (R.1.log.set i f) _ _ _ hNL (by omega) (fun b6 hb6 hz => absurd hchk hz) (fun k b6 hb6 _ hq => ?_) fun b6 hb6 _ hq => ?_)
  · exact (by repeat first | exact hsub | refine Sub.new ?_ (hfin _ (by omega)) | refine Sub.del ?_ (hfin _ (by omega)) | refine Sub.tag ?_ (hfin _ (by omega)) (hfin _ (by omega)) (fun p hp => hfin p (by first | (simp only [List.not_mem_nil] at hp; done) | (simp only [List.mem_cons, List.not_mem_nil, or_false] at hp; omega))))
  · exact (by repeat first | exact hsub | refine Sub.new ?_ (hfin _ (by omega)) | refine Sub.del ?_ (hfin _ (by omega)) | refine Sub.tag ?_ (hfin _ (by omega)) (hfin _ (by omega)) (fun p hp => hfin p (by first | (simp only [List.not_mem_nil] at hp; done) | (simp only [List.mem_cons, List.not_mem_nil, or_false] at hp; omega))))
  · rw [← rowset_t rfl hil j]
    by_cases e : j = i
    · subst e
      simp only [if_true]
      exact TnL.same (sub_del_of (by repeat first | exact hsub | refine Sub.new ?_ (hfin _ (by omega)) | refine Sub.del ?_ (hfin _ (by omega)) | refine Sub.tag ?_ (hfin _ (by omega)) (hfin _ (by omega)) (fun p hp => hfin p (by first | (simp only [List.not_mem_nil] at hp; done) | (simp only [List.mem_cons, List.not_mem_nil, or_false] at hp; omega)))) (hfin _ (by omega))) _
    · simp only [e, if_false]
      exact TnL.same (sub_del_of (by repeat first | exact hsub | refine Sub.new ?_ (hfin _ (by omega)) | refine Sub.del ?_ (hfin _ (by omega)) | refine Sub.tag ?_ (hfin _ (by omega)) (hfin _ (by omega)) (fun p hp => hfin p (by first | (simp only [List.not_mem_nil] at hp; done) | (simp only [List.mem_cons, List.not_mem_nil, or_false] at hp; omega)))) (hfin _ (by omega))) _
  · have hki := hj.2 k hq
    have hne : f ≠ g := fun e => by rw [e, hself, hj1] at hq; cases hq
    have hb : (decide (f.t = g.t) && decide (f.i = g.i)) = false := fire_ne hne
    have lt_49 : nx + 1 < b6 := by omega
    have lt_50 : b2 < b6 := by omega
    have lt_51 : b4 < b6 := by omega
    have lt_52 : u < b6 := by omega
    refine SRun.run 100 ?_; simp -implicitDefEqProofs only [↓qx, qr, ql, qb, qs1, qs2, qs3, qs4, qs5, nilA, clearA, Value.oneCell', forall_const, guards, idxA, indexVA, lenA, buildA, bsA, sliceA, ↓reduceIte, ne_eq, Nat.reduceAdd, Nat.reduceBNe, Nat.reduceMul, Nat.reduceSub, Int.reduceEq, Int.reduceNe, Int.reduceLT, Int.reduceLE, Int.reduceAdd, Int.reduceMul, Int.reduceSub, Int.reduceNeg, Nat.reduceBEq, Nat.reduceEqDiff, Nat.reduceLT, Nat.reduceLeDiff, Int.reduceToNat, tis, show Try.f3.results = #[Go.ResultVar.tmp 8] from rfl, h2, h7, h9, h10, lt_46, lt_47, lt_48, hf0, hbN, hbR, lt_49, lt_50, lt_51, lt_52,  tab]
    refine SRun.draw' (.quiet 0 false (.quiet 1 false (.quiet 2 false (.quiet 3 false (.quiet 4 false (.quiet 5 false (.quiet 6 false .done))))))) mixed (by kernel_rfl) ?_
    simp -implicitDefEqProofs only [↓qx, qr, ql, qb, qs1, qs2, qs3, qs4, qs5, nilA, clearA, Value.oneCell', forall_const, guards, idxA, indexVA, lenA, buildA, bsA, sliceA, ↓reduceIte, ne_eq, Nat.reduceAdd, Nat.reduceBNe, Nat.reduceMul, Nat.reduceSub, Int.reduceEq, Int.reduceNe, Int.reduceLT, Int.reduceLE, Int.reduceAdd, Int.reduceMul, Int.reduceSub, Int.reduceNeg, Nat.reduceBEq, Nat.reduceEqDiff, Nat.reduceLT, Nat.reduceLeDiff, Int.reduceToNat, tis, show Try.f3.results = #[Go.ResultVar.tmp 8] from rfl, h2, h7, h9, h10, lt_46, lt_47, lt_48, hf0, hbN, hbR, lt_49, lt_50, lt_51, lt_52, tab, hg, hb]
    repeat (with_reducible refine And.intro ?_ ?_; focus (first | omega | (simp; done)))
    refine SRun.run 100 ?_; simp -implicitDefEqProofs only [↓qx, qr, ql, qb, qs1, qs2, qs3, qs4, qs5, nilA, clearA, Value.oneCell', forall_const, guards, idxA, indexVA, lenA, buildA, bsA, sliceA, ↓reduceIte, ne_eq, Nat.reduceAdd, Nat.reduceBNe, Nat.reduceMul, Nat.reduceSub, Int.reduceEq, Int.reduceNe, Int.reduceLT, Int.reduceLE, Int.reduceAdd, Int.reduceMul, Int.reduceSub, Int.reduceNeg, Nat.reduceBEq, Nat.reduceEqDiff, Nat.reduceLT, Nat.reduceLeDiff, Int.reduceToNat, tis, show Try.f3.results = #[Go.ResultVar.tmp 8] from rfl, h2, h7, h9, h10, lt_46, lt_47, lt_48, hf0, hbN, hbR, lt_49, lt_50, lt_51, lt_52,  tab, hb]
    by_cases ht : f.t = g.t
    · have hk3 := hj.1 ht hne
      rw [hq] at hk3
      injection hk3 with hk3
      subst hk3
      refine SRun.draw' (.quiet 0 false (.quiet 1 false (.quiet 2 false (.quiet 3 false (.quiet 4 false (.quiet 5 false (.quiet 6 false (.quiet 7 false (.quiet 8 false .done))))))))) mixed (by kernel_rfl) ?_
      simp -implicitDefEqProofs only [↓qx, qr, ql, qb, qs1, qs2, qs3, qs4, qs5, nilA, clearA, Value.oneCell', forall_const, guards, idxA, indexVA, lenA, buildA, bsA, sliceA, ↓reduceIte, ne_eq, Nat.reduceAdd, Nat.reduceBNe, Nat.reduceMul, Nat.reduceSub, Int.reduceEq, Int.reduceNe, Int.reduceLT, Int.reduceLE, Int.reduceAdd, Int.reduceMul, Int.reduceSub, Int.reduceNeg, Nat.reduceBEq, Nat.reduceEqDiff, Nat.reduceLT, Nat.reduceLeDiff, Int.reduceToNat, tis, show Try.f3.results = #[Go.ResultVar.tmp 8] from rfl, h2, h7, h9, h10, lt_46, lt_47, lt_48, hf0, hbN, hbR, lt_49, lt_50, lt_51, lt_52, tab, hg, ht]
      repeat (with_reducible refine And.intro ?_ ?_; focus (first | omega | (simp; done)))
      refine SRun.run 100 ?_; simp -implicitDefEqProofs only [↓qx, qr, ql, qb, qs1, qs2, qs3, qs4, qs5, nilA, clearA, Value.oneCell', forall_const, guards, idxA, indexVA, lenA, buildA, bsA, sliceA, ↓reduceIte, ne_eq, Nat.reduceAdd, Nat.reduceBNe, Nat.reduceMul, Nat.reduceSub, Int.reduceEq, Int.reduceNe, Int.reduceLT, Int.reduceLE, Int.reduceAdd, Int.reduceMul, Int.reduceSub, Int.reduceNeg, Nat.reduceBEq, Nat.reduceEqDiff, Nat.reduceLT, Nat.reduceLeDiff, Int.reduceToNat, tis, show Try.f3.results = #[Go.ResultVar.tmp 8] from rfl, h2, h7, h9, h10, lt_46, lt_47, lt_48, hf0, hbN, hbR, lt_49, lt_50, lt_51, lt_52,  tab]
      refine fin_sub hst (hK _ ?_)
      omega
    · have hge : (i : Int) ≤ (k : Int) := by omega
      refine SRun.draw' (.quiet 0 false (.quiet 1 false (.quiet 2 false (.quiet 3 false (.quiet 4 false (.quiet 5 false (.quiet 6 false (.quiet 7 false (.quiet 8 false .done))))))))) mixed (by kernel_rfl) ?_
      simp -implicitDefEqProofs only [↓qx, qr, ql, qb, qs1, qs2, qs3, qs4, qs5, nilA, clearA, Value.oneCell', forall_const, guards, idxA, indexVA, lenA, buildA, bsA, sliceA, ↓reduceIte, ne_eq, Nat.reduceAdd, Nat.reduceBNe, Nat.reduceMul, Nat.reduceSub, Int.reduceEq, Int.reduceNe, Int.reduceLT, Int.reduceLE, Int.reduceAdd, Int.reduceMul, Int.reduceSub, Int.reduceNeg, Nat.reduceBEq, Nat.reduceEqDiff, Nat.reduceLT, Nat.reduceLeDiff, Int.reduceToNat, tis, show Try.f3.results = #[Go.ResultVar.tmp 8] from rfl, h2, h7, h9, h10, lt_46, lt_47, lt_48, hf0, hbN, hbR, lt_49, lt_50, lt_51, lt_52, tab, hg, ht]
      repeat (with_reducible refine And.intro ?_ ?_; focus (first | omega | (simp; done)))
      refine SRun.run 100 ?_; simp -implicitDefEqProofs only [↓qx, qr, ql, qb, qs1, qs2, qs3, qs4, qs5, nilA, clearA, Value.oneCell', forall_const, guards, idxA, indexVA, lenA, buildA, bsA, sliceA, ↓reduceIte, ne_eq, Nat.reduceAdd, Nat.reduceBNe, Nat.reduceMul, Nat.reduceSub, Int.reduceEq, Int.reduceNe, Int.reduceLT, Int.reduceLE, Int.reduceAdd, Int.reduceMul, Int.reduceSub, Int.reduceNeg, Nat.reduceBEq, Nat.reduceEqDiff, Nat.reduceLT, Nat.reduceLeDiff, Int.reduceToNat, tis, show Try.f3.results = #[Go.ResultVar.tmp 8] from rfl, h2, h7, h9, h10, lt_46, lt_47, lt_48, hf0, hbN, hbR, lt_49, lt_50, lt_51, lt_52,  tab, hge]
      refine fin_sub hst (hK _ ?_)
      omega
  · have lt_53 : nx + 1 < b6 := by omega
    have lt_54 : b2 < b6 := by omega
    have lt_55 : b4 < b6 := by omega
    have lt_56 : u < b6 := by omega
    by_cases hfg : f = g
    · have e1 : f.t = g.t := by rw [hfg]
      have e2 : f.i = g.i := by rw [hfg]
      refine SRun.run 100 ?_; simp -implicitDefEqProofs only [↓qx, qr, ql, qb, qs1, qs2, qs3, qs4, qs5, nilA, clearA, Value.oneCell', forall_const, guards, idxA, indexVA, lenA, buildA, bsA, sliceA, ↓reduceIte, ne_eq, Nat.reduceAdd, Nat.reduceBNe, Nat.reduceMul, Nat.reduceSub, Int.reduceEq, Int.reduceNe, Int.reduceLT, Int.reduceLE, Int.reduceAdd, Int.reduceMul, Int.reduceSub, Int.reduceNeg, Nat.reduceBEq, Nat.reduceEqDiff, Nat.reduceLT, Nat.reduceLeDiff, Int.reduceToNat, tis, show Try.f3.results = #[Go.ResultVar.tmp 8] from rfl, h2, h7, h9, h10, lt_46, lt_47, lt_48, hf0, hbN, hbR, lt_53, lt_54, lt_55, lt_56,  tab]
      refine SRun.draw' (.quiet 0 false (.quiet 1 false (.quiet 2 false (.quiet 3 false (.quiet 4 false (.quiet 5 false (.quiet 6 false .done))))))) mixed (by kernel_rfl) ?_
      simp -implicitDefEqProofs only [↓qx, qr, ql, qb, qs1, qs2, qs3, qs4, qs5, nilA, clearA, Value.oneCell', forall_const, guards, idxA, indexVA, lenA, buildA, bsA, sliceA, ↓reduceIte, ne_eq, Nat.reduceAdd, Nat.reduceBNe, Nat.reduceMul, Nat.reduceSub, Int.reduceEq, Int.reduceNe, Int.reduceLT, Int.reduceLE, Int.reduceAdd, Int.reduceMul, Int.reduceSub, Int.reduceNeg, Nat.reduceBEq, Nat.reduceEqDiff, Nat.reduceLT, Nat.reduceLeDiff, Int.reduceToNat, tis, show Try.f3.results = #[Go.ResultVar.tmp 8] from rfl, h2, h7, h9, h10, lt_46, lt_47, lt_48, hf0, hbN, hbR, lt_53, lt_54, lt_55, lt_56, tab, hg, e1, e2]
      repeat (with_reducible refine And.intro ?_ ?_; focus (first | omega | (simp; done)))
      refine SRun.run 100 ?_; simp -implicitDefEqProofs only [↓qx, qr, ql, qb, qs1, qs2, qs3, qs4, qs5, nilA, clearA, Value.oneCell', forall_const, guards, idxA, indexVA, lenA, buildA, bsA, sliceA, ↓reduceIte, ne_eq, Nat.reduceAdd, Nat.reduceBNe, Nat.reduceMul, Nat.reduceSub, Int.reduceEq, Int.reduceNe, Int.reduceLT, Int.reduceLE, Int.reduceAdd, Int.reduceMul, Int.reduceSub, Int.reduceNeg, Nat.reduceBEq, Nat.reduceEqDiff, Nat.reduceLT, Nat.reduceLeDiff, Int.reduceToNat, tis, show Try.f3.results = #[Go.ResultVar.tmp 8] from rfl, h2, h7, h9, h10, lt_46, lt_47, lt_48, hf0, hbN, hbR, lt_53, lt_54, lt_55, lt_56,  tab]
      refine fin_sub hst (hK _ ?_)
      omega
    · have hb : (decide (f.t = g.t) && decide (f.i = g.i)) = false := fire_ne hfg
      by_cases ht : f.t = g.t
      · have hk3 := hj.1 ht hfg
        rw [hq] at hk3
        cases hk3
      · refine SRun.run 100 ?_; simp -implicitDefEqProofs only [↓qx, qr, ql, qb, qs1, qs2, qs3, qs4, qs5, nilA, clearA, Value.oneCell', forall_const, guards, idxA, indexVA, lenA, buildA, bsA, sliceA, ↓reduceIte, ne_eq, Nat.reduceAdd, Nat.reduceBNe, Nat.reduceMul, Nat.reduceSub, Int.reduceEq, Int.reduceNe, Int.reduceLT, Int.reduceLE, Int.reduceAdd, Int.reduceMul, Int.reduceSub, Int.reduceNeg, Nat.reduceBEq, Nat.reduceEqDiff, Nat.reduceLT, Nat.reduceLeDiff, Int.reduceToNat, tis, show Try.f3.results = #[Go.ResultVar.tmp 8] from rfl, h2, h7, h9, h10, lt_46, lt_47, lt_48, hf0, hbN, hbR, lt_53, lt_54, lt_55, lt_56,  tab]
        refine SRun.draw' (.quiet 0 false (.quiet 1 false (.quiet 2 false (.quiet 3 false (.quiet 4 false (.quiet 5 false (.quiet 6 false .done))))))) mixed (by kernel_rfl) ?_
        simp -implicitDefEqProofs only [↓qx, qr, ql, qb, qs1, qs2, qs3, qs4, qs5, nilA, clearA, Value.oneCell', forall_const, guards, idxA, indexVA, lenA, buildA, bsA, sliceA, ↓reduceIte, ne_eq, Nat.reduceAdd, Nat.reduceBNe, Nat.reduceMul, Nat.reduceSub, Int.reduceEq, Int.reduceNe, Int.reduceLT, Int.reduceLE, Int.reduceAdd, Int.reduceMul, Int.reduceSub, Int.reduceNeg, Nat.reduceBEq, Nat.reduceEqDiff, Nat.reduceLT, Nat.reduceLeDiff, Int.reduceToNat, tis, show Try.f3.results = #[Go.ResultVar.tmp 8] from rfl, h2, h7, h9, h10, lt_46, lt_47, lt_48, hf0, hbN, hbR, lt_53, lt_54, lt_55, lt_56, tab, hg, hb]
        repeat (with_reducible refine And.intro ?_ ?_; focus (first | omega | (simp; done)))
        refine SRun.run 100 ?_; simp -implicitDefEqProofs only [↓qx, qr, ql, qb, qs1, qs2, qs3, qs4, qs5, nilA, clearA, Value.oneCell', forall_const, guards, idxA, indexVA, lenA, buildA, bsA, sliceA, ↓reduceIte, ne_eq, Nat.reduceAdd, Nat.reduceBNe, Nat.reduceMul, Nat.reduceSub, Int.reduceEq, Int.reduceNe, Int.reduceLT, Int.reduceLE, Int.reduceAdd, Int.reduceMul, Int.reduceSub, Int.reduceNeg, Nat.reduceBEq, Nat.reduceEqDiff, Nat.reduceLT, Nat.reduceLeDiff, Int.reduceToNat, tis, show Try.f3.results = #[Go.ResultVar.tmp 8] from rfl, h2, h7, h9, h10, lt_46, lt_47, lt_48, hf0, hbN, hbR, lt_53, lt_54, lt_55, lt_56,  tab, hb]
        refine SRun.draw' (.quiet 0 false (.quiet 1 false (.quiet 2 false (.quiet 3 false (.quiet 4 false (.quiet 5 false (.quiet 6 false (.quiet 7 false (.quiet 8 false .done))))))))) mixed (by kernel_rfl) ?_
        simp -implicitDefEqProofs only [↓qx, qr, ql, qb, qs1, qs2, qs3, qs4, qs5, nilA, clearA, Value.oneCell', forall_const, guards, idxA, indexVA, lenA, buildA, bsA, sliceA, ↓reduceIte, ne_eq, Nat.reduceAdd, Nat.reduceBNe, Nat.reduceMul, Nat.reduceSub, Int.reduceEq, Int.reduceNe, Int.reduceLT, Int.reduceLE, Int.reduceAdd, Int.reduceMul, Int.reduceSub, Int.reduceNeg, Nat.reduceBEq, Nat.reduceEqDiff, Nat.reduceLT, Nat.reduceLeDiff, Int.reduceToNat, tis, show Try.f3.results = #[Go.ResultVar.tmp 8] from rfl, h2, h7, h9, h10, lt_46, lt_47, lt_48, hf0, hbN, hbR, lt_53, lt_54, lt_55, lt_56, tab, hg, ht]
        repeat (with_reducible refine And.intro ?_ ?_; focus (first | omega | (simp; done)))
        refine SRun.run 100 ?_; simp -implicitDefEqProofs only [↓qx, qr, ql, qb, qs1, qs2, qs3, qs4, qs5, nilA, clearA, Value.oneCell', forall_const, guards, idxA, indexVA, lenA, buildA, bsA, sliceA, ↓reduceIte, ne_eq, Nat.reduceAdd, Nat.reduceBNe, Nat.reduceMul, Nat.reduceSub, Int.reduceEq, Int.reduceNe, Int.reduceLT, Int.reduceLE, Int.reduceAdd, Int.reduceMul, Int.reduceSub, Int.reduceNeg, Nat.reduceBEq, Nat.reduceEqDiff, Nat.reduceLT, Nat.reduceLeDiff, Int.reduceToNat, tis, show Try.f3.results = #[Go.ResultVar.tmp 8] from rfl, h2, h7, h9, h10, lt_46, lt_47, lt_48, hf0, hbN, hbR, lt_53, lt_54, lt_55, lt_56,  tab]
        refine fin_sub hst (hK _ ?_)
        omega
end Go.Proofs.Ytidmngajngemjaa
/- How arguments are read. -/
namespace Go.Proofs.Ytidmngajngemjaa
set_option linter.all false
open Go Go.Proofs.Ytidmngajngemjaa.Fw
set_option maxRecDepth 100000
set_option maxHeartbeats 1000000
theorem rdU8 : Rd Try.prog 5 1 (fun l => ∃ n : Int, (0 ≤ n ∧ n < 256) ∧ l = [.int .u8 n]) := (Rd.int (k := .u8) (by kernel_rfl) (by kernel_rfl)).imp fun l ⟨n, h, e⟩ => ⟨n, (by rw [show IntKind.u8.min = 0 from rfl, show IntKind.u8.max = 255 from rfl] at h; omega), e⟩
theorem rdInt : Rd Try.prog 3 1 (fun l => ∃ n : Int, (-9223372036854775808 ≤ n ∧ n ≤ 9223372036854775807) ∧ l = [.int .i64 n]) := (Rd.int (k := .i64) (by kernel_rfl) (by kernel_rfl)).imp fun l ⟨n, h, e⟩ => ⟨n, (by rw [show IntKind.i64.min = -9223372036854775808 from rfl, show IntKind.i64.max = 9223372036854775807 from rfl] at h; omega), e⟩
end Go.Proofs.Ytidmngajngemjaa
/- How a draft is read. -/
namespace Go.Proofs.Ytidmngajngemjaa
set_option linter.all false
open Go Go.Proofs.Ytidmngajngemjaa.Fw
set_option maxRecDepth 100000
set_option maxHeartbeats 1000000
theorem rdU8s : Rd Try.prog 22 1 (fun l => ∃ xs : List Int, ((∀ a ∈ xs, 0 ≤ a ∧ a < 256) ∧ xs.length ≤ maxLen) ∧ l = [tab 1 eU8 0 xs]) := Rd.slice 0 (by kernel_rfl) (by kernel_rfl) (by omega) rdU8
abbrev pU8 : List AV → Prop := fun l => ∃ n : Int, (0 ≤ n ∧ n < 256) ∧ l = [.int .u8 n]
theorem rdAct : Rd Try.prog 78 7 (fun l => ∃ a : Act, okAct a ∧ l = eAct a) :=
  (Rd.struct (ps := [(1, pU8), (1, pU8), (1, pU8), (1, pU8), (1, pU8), (1, pU8), (1, pU8)]) Try.underlying78 (by kernel_rfl) ⟨rfl, rdU8, rfl, rdU8, rfl, rdU8, rfl, rdU8, rfl, rdU8, rfl, rdU8, rfl, rdU8, rfl⟩).imp fun l h => by
    obtain ⟨l1, r1, rfl, _, ⟨a, ha, rfl⟩, l2, r2, rfl, _, ⟨b, hb, rfl⟩, l3, r3, rfl, _, ⟨c, hc, rfl⟩, l4, r4, rfl, _, ⟨d, hd, rfl⟩, l5, r5, rfl, _, ⟨e, he, rfl⟩, l6, r6, rfl, _, ⟨f, hf, rfl⟩, l7, r7, rfl, _, ⟨g, hg, rfl⟩, rfl⟩ := h
    exact ⟨⟨a, b, c, d, e, f, g⟩, ⟨ha, hb, hc, hd, he, hf, hg⟩, rfl⟩
theorem rdActs : Rd Try.prog 23 1 (fun l => ∃ xs : List Act, ((∀ a ∈ xs, okAct a) ∧ xs.length ≤ maxLen) ∧ l = [tab 7 eAct dAct xs]) := Rd.slice dAct (by kernel_rfl) (by kernel_rfl) (by omega) rdAct
theorem rdDraft : Rd Try.prog 25 2 (fun l => ∃ d : Draft, okDraft d ∧ l = eDraft d) :=
  (Rd.struct (ps := [(1, _), (1, _)]) Try.underlying25 (by kernel_rfl) ⟨rfl, rdU8s, rfl, rdActs, rfl⟩).imp fun l h => by
    obtain ⟨l1, r1, rfl, _, ⟨a, ha, rfl⟩, l2, r2, rfl, _, ⟨b, hb, rfl⟩, rfl⟩ := h
    exact ⟨⟨a, b⟩, ⟨ha.1, hb.1⟩, rfl⟩
end Go.Proofs.Ytidmngajngemjaa
/- How firings are read. -/
namespace Go.Proofs.Ytidmngajngemjaa
set_option linter.all false
open Go Go.Proofs.Ytidmngajngemjaa.Fw
set_option maxRecDepth 100000
set_option maxHeartbeats 1000000
abbrev pIntF : List AV → Prop := fun l => ∃ n : Int, (-9223372036854775808 ≤ n ∧ n ≤ 9223372036854775807) ∧ l = [.int .i64 n]
theorem rdFire : Rd Try.prog 27 2 (fun l => ∃ f : Fire, True ∧ l = eFire f) :=
  (Rd.struct (ps := [(1, pIntF), (1, pIntF)]) Try.underlying27 (by kernel_rfl) ⟨rfl, rdInt, rfl, rdInt, rfl⟩).imp fun l h => by
    obtain ⟨l1, r1, rfl, _, ⟨a, ha, rfl⟩, l2, r2, rfl, _, ⟨b, hb, rfl⟩, rfl⟩ := h
    exact ⟨⟨a, b⟩, trivial, rfl⟩
end Go.Proofs.Ytidmngajngemjaa
/- JudgeReplays answers true for every input. -/
namespace Go.Proofs.Ytidmngajngemjaa.judgeReplays
set_option linter.all false
open Go Go.Proofs.Ytidmngajngemjaa.Fw Go.ChangeShapes Go.WideShapes Go.ChangeAt Go.RowKit
set_option linter.unusedVariables false
set_option maxRecDepth 100000
set_option maxHeartbeats 4000000
theorem own : ownKnob Try.prog.godebug = none := by kernel_rfl
theorem laidOut : laidOutB Try.prog = true := by kernel_rfl
theorem lifted (os : Os) (started : os.Started) (H : Type) (enc : TypeId × Value → H) :
    ReturnsInHanded {} Try.checked os 3 .any (Rows.judgeReplaysSpec.pre6 enc Try.prog Try.f3 Rows.judgeReplaysRow.domain false) (Rows.judgeReplaysSpec.post enc Try.prog Try.f3 false true false false) := by
  refine returnsInHanded_of_change_sized (C := Try.checked) own started (by kernel_rfl) Try.func3
    (ChangeSpec.witness6 (enc := enc) (C := Try.checked) false ⟨#[], #[.agg #[.slice none 0 0, .slice none 0 0], .int .u8 0, .int .u8 0, .agg #[.int .i64 0, .int .i64 0]], []⟩ 16 (by kernel_rfl) (by kernel_rfl) (by kernel_rfl) (by kernel_rfl)) ?_
  intro W base args ds gs before hval0 hW hcnd hsz0 _
  have hW' := hW
  obtain ⟨p, q, hA0, hV, rfl, hfz, hnd⟩ := hW
  have hA : DataW.TrodAll enc Try.prog W 0 (fun _ => true) true Try.f3.params.toList args.toList ds p := hA0
  rw [Try.params3] at hA
  obtain ⟨v0, vs0, d0, ds0, p0, q0, hargs, rfl, rfl, h0, r0⟩ := trodAll_cons hA
  obtain ⟨v1, vs1, d1, ds1, p1, q1, rfl, rfl, rfl, h1, r1⟩ := trodAll_cons r0
  obtain ⟨v2, vs2, d2, ds2, p2, q2, rfl, rfl, rfl, h2, r2⟩ := trodAll_cons r1
  obtain ⟨v3, vs3, d3, ds3, p3, q3, rfl, rfl, rfl, h3, r3⟩ := trodAll_cons r2
  obtain ⟨rfl, rfl, rfl⟩ := trodAll_nil r3
  obtain rfl : args = #[v0, v1, v2, v3] := by cases args; simp_all
  obtain ⟨rfl, rfl⟩ := trodVars_none hV
  have hval : ∀ (j : Nat) t v, Try.f3.params[j]? = some t → (#[v0, v1, v2, v3] : Array Value)[j]? = some v → Value.okWide Try.prog W .any base t v := hval0
  rw [Try.params3] at hval
  have k0 := h0
  have lt0 : ∀ x ∈ p0, x.block < W.heap.size := by obtain ⟨m, hm⟩ := k0; exact DataW.trod_lt m _ _ _ hm
  obtain ⟨fuel0, hf0⟩ := h0
  obtain ⟨l0, ⟨d, hd, rfl⟩, hl0, ho0, hr0⟩ := rdDraft.2 _ _ _ _ _ _ hf0
  obtain ⟨cs0, rfl, _⟩ := okWide_struct Try.underlying25 (hval 0 _ v0 rfl rfl)
  have hv0 := vagg ho0 hr0
  have k1 := h1
  have lt1 : ∀ x ∈ p1, x.block < W.heap.size := by obtain ⟨m, hm⟩ := k1; exact DataW.trod_lt m _ _ _ hm
  obtain ⟨fuel1, hf1⟩ := h1
  obtain ⟨l1, ⟨x, hx, rfl⟩, hl1, ho1, hr1⟩ := rdU8.2 _ _ _ _ _ _ hf1
  have hc1 : v1.cells.toList = [v1] := by
    obtain ⟨a0, e⟩ := okWide_int Try.underlying5 (hval 1 _ v1 rfl rfl)
    rw [e]; rfl
  have hv1 := vone (by rw [hc1] at hr1; exact hr1)
  have k2 := h2
  have lt2 : ∀ x ∈ p2, x.block < W.heap.size := by obtain ⟨m, hm⟩ := k2; exact DataW.trod_lt m _ _ _ hm
  obtain ⟨fuel2, hf2⟩ := h2
  obtain ⟨l2, ⟨y, hy, rfl⟩, hl2, ho2, hr2⟩ := rdU8.2 _ _ _ _ _ _ hf2
  have hc2 : v2.cells.toList = [v2] := by
    obtain ⟨a0, e⟩ := okWide_int Try.underlying5 (hval 2 _ v2 rfl rfl)
    rw [e]; rfl
  have hv2 := vone (by rw [hc2] at hr2; exact hr2)
  have k3 := h3
  have lt3 : ∀ x ∈ p3, x.block < W.heap.size := by obtain ⟨m, hm⟩ := k3; exact DataW.trod_lt m _ _ _ hm
  obtain ⟨fuel3, hf3⟩ := h3
  obtain ⟨l3, ⟨f, _, rfl⟩, hl3, ho3, hr3⟩ := rdFire.2 _ _ _ _ _ _ hf3
  obtain ⟨cs3, rfl, _⟩ := okWide_struct Try.underlying27 (hval 3 _ v3 rfl rfl)
  have hv3 := vagg ho3 hr3
  refine (SCall.law (replays_ok d x y f _ _ _ hd hx hy fun _ _ => rfl) (vs := #[.agg cs0, v1, v2, .agg cs3]) (vcons hv0 (vcons hv1 (vcons hv2 (vcons hv3 vnil))))).mono fun e W' ⟨he, bel⟩ => ?_
  subst he
  exact ⟨_, rfl, _, _, _, [], _, [], hW', trodAll_mk1 (shut_bool Try.underlying4 _), (trodAll_cons_mk (Below.trod laidOut (by kernel_rfl) (of_decide_eq_true (by kernel_rfl)) k0 bel lt0) (trodAll_cons_mk (Below.trod laidOut (by kernel_rfl) (of_decide_eq_true (by kernel_rfl)) k1 bel lt1) (trodAll_cons_mk (Below.trod laidOut (by kernel_rfl) (of_decide_eq_true (by kernel_rfl)) k2 bel lt2) (trodAll_cons_mk (Below.trod laidOut (by kernel_rfl) (of_decide_eq_true (by kernel_rfl)) k3 bel lt3) trodAll_mk0)))), rfl, bel.frame _, fun h => by cases h⟩
theorem over : Rows.judgeReplaysRow.holds Try.pinned (OpenSpec.ofChange Rows.judgeReplaysSpec) :=
  OpenClaim.holds_of_wide 3 Try.f3 rfl rfl rfl rfl rfl rfl rfl ⟨rfl, rfl, rfl, rfl, rfl⟩ rfl rfl rfl rfl rfl (by kernel_rfl) Try.func3 (by kernel_rfl)
    (of_decide_eq_true (by kernel_rfl)) (by unfold Func.isWrapper; first | (rw [if_pos (by decide +kernel)]; kernel_rfl) | (rw [if_neg (by decide +kernel)]; exact ⟨rfl, rfl⟩))
    (fun os started H enc _ => lifted os started H enc)
theorem proved : Rows.JudgeReplaysSaid := over
end Go.Proofs.Ytidmngajngemjaa.judgeReplays
namespace Go.Proofs.Ytidmngajngemjaa
/-- JudgeReplays answers true for every input. -/
theorem judgeReplays_holds : Rows.JudgeReplaysSaid := judgeReplays.proved
#print axioms judgeReplays_holds
end Go.Proofs.Ytidmngajngemjaa
