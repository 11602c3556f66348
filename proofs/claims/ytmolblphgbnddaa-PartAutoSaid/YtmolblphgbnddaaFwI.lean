/- One step of a region. -/
import Derived.Test.YtmolblphgbnddaaFwH
namespace Go.Proofs.Ytmolblphgbnddaa.Fw
set_option linter.all false
open Go Go.RowKit

/-- A byte of a text. -/
def byteAt (s : ByteArray) (i : Nat) : Int := ((s.data.toList.getD i 0).toNat : Int)

def indexVA (P : Program) (t : TypeId) (x i : AV) : Res :=
  match TI.of P t, i with
  | some T, .int _ n => match T.d, x with
    | .arr len sz g, .agg l => .val (sz ≠ 0 ∧ 0 ≤ n ∧ n < len ∧ n.toNat * sz + sz ≤ l.length) (partA g sz (n.toNat * sz) l)
    | .str, .str s => .val (0 ≤ n ∧ n < s.size) (.int .u8 (byteAt s n.toNat))
    | _, _ => .bad
  | _, _ => .bad

theorem indexVA_ok {P : Program} {t : TypeId} {φ : Phi} {w : World} {S : Nat → Prop} {x i : AV} {v j : Value} (hx : VRel φ w S x v) (hi : VRel φ w S i j)
    {c : Prop} {r : AV} (hr : indexVA P t x i = .val c r) (hc : c) : ∃ u, (Instr.index t v j).run P w = .ok u w ∧ VRel φ w S r u := by
  unfold indexVA at hr
  split at hr <;> (first | (cases hr; done) | skip)
  rename_i T k n hT
  simp only [VRel] at hi
  subst hi
  split at hr <;> (first | (cases hr; done) | skip) <;> rename_i hd <;> injection hr with h1 h2 <;> subst h1 <;> subst h2 <;> simp only [VRel] at hx
  · obtain ⟨e, hu, rfl, rfl⟩ := TI.und_arr hT hd
    obtain ⟨h0, h1, h2, h3⟩ := hc
    obtain ⟨vs, rfl, ho, hv⟩ := hx
    obtain ⟨u, g1, g2⟩ := run_part h0 hv ho _ h3
    exact ⟨u, by simp [Instr.index, asIntOf, run_underlying hu, h1, h2, run_szT h0, g1], g2⟩
  · rename_i s
    subst hx
    have hu := TI.und_str hT hd
    obtain ⟨h1, h2⟩ := hc
    have hlt : n.toNat < s.size := by omega
    refine ⟨.int .u8 (s[n.toNat].toNat : Int), ?_, ?_⟩
    · simp [Instr.index, asIntOf, run_underlying hu, h1, ByteArray.getElem?_lt' s n.toNat hlt]
    · simp only [VRel, byteAt]
      have : s.data.toList.getD n.toNat 0 = s[n.toNat] := by
        rw [List.getD_eq_getElem?_getD, Array.getElem?_toList, Array.getElem?_eq_getElem (by exact hlt)]
        rfl
      rw [this]

/-- The bytes of a row, as a text. -/
def textOf (n : Nat) (f : Nat → List AV) : ByteArray :=
  ⟨((List.range n).map fun i => match f i with | [.int _ b] => UInt8.ofNat b.toNat | _ => 0).toArray⟩
def isBytes (n : Nat) (f : Nat → List AV) : Prop := ∀ i, i < n → ∃ b, f i = [.int .u8 b]

def convA (P : Program) (src dst : TypeId) (st : Store) (x : AV) : Res :=
  match TI.of P src, TI.of P dst with
  | some A, some B => match A.d, B.d, x with
    | .int _, .int k, .int _ n => .val True (.int k (k.wrap n))
    | .str, .str, .str s => .val True (.str s)
    | .sl e sz _, .str, x => match TI.of P e, srcA sz st x with
      | some E, some (c, n, f) => .val (c ∧ E.d = .int .u8 ∧ sz = 1 ∧ isBytes n f) (.str (textOf n f))
      | _, _ => .bad
    | _, _, _ => .bad
  | _, _ => .bad

theorem run_loadBytes {w : World} {φ : Phi} {S : Nat → Prop} (n : Nat) (f : Nat → List AV) (news : List Value) (hb : isBytes n f) (hl : news.length = n * 1)
    (h : ∀ i, i < n → (f i).length = 1 ∧ VRelL φ w S (f i) ((news.drop (i * 1)).take 1)) :
    ∃ bs : List Int, news = bs.map (Value.int .u8) ∧ textOf n f = ⟨(bs.map fun b => UInt8.ofNat b.toNat).toArray⟩ := by
  refine ⟨(List.range n).map (fun i => match f i with | [.int _ b] => b | _ => 0), ?_, ?_⟩
  · apply List.ext_getElem
    · simp [hl]
    · intro i h1 h2
      have hi : i < n := by simpa using h2
      obtain ⟨b, hfb⟩ := hb i hi
      have hv := (h i hi).2
      rw [hfb, Nat.mul_one, List.drop_eq_getElem_cons h1] at hv
      simp only [List.take_succ_cons, List.take_zero, VRelL] at hv
      obtain ⟨y, ys, he, hy, _⟩ := hv
      injection he with he _
      simp only [List.map_map, List.getElem_map, List.getElem_range, Function.comp_def, hfb]
      rw [he]
      simpa [VRel] using hy
  · unfold textOf
    rw [List.map_map]
    congr 2
    apply List.map_congr_left
    intro i hi
    obtain ⟨b, hfb⟩ := hb i (by simpa using hi)
    simp only [Function.comp_def, hfb]

theorem foldl_push (bs : List Int) : bs.foldl (fun r n => r.push (UInt8.ofNat n.toNat)) ByteArray.empty = ⟨(bs.map fun b => UInt8.ofNat b.toNat).toArray⟩ := by
  have : ∀ (bs : List Int) (r : ByteArray), bs.foldl (fun r n => r.push (UInt8.ofNat n.toNat)) r = ⟨r.data ++ (bs.map fun b => UInt8.ofNat b.toNat).toArray⟩ := by
    intro bs
    induction bs with
    | nil => intro r; simp
    | cons b bs ih =>
      intro r
      rw [List.foldl_cons, ih]
      congr 1
      apply Array.ext'
      simp [ByteArray.push]
  rw [this, show ByteArray.empty.data = #[] from rfl, Array.empty_append]

theorem convA_ok {P : Program} {src dst : TypeId} {φ : Phi} {st : Store} {nx : Nat} {w : World} (h : Rel φ st nx w) {x : AV} {v : Value} (hx : VRel φ w (Own φ st) x v)
    {c : Prop} {r : AV} (hr : convA P src dst st x = .val c r) (hc : c) : ∃ u, (convert src dst v).run P w = .ok u w ∧ VRel φ w (Own φ st) r u := by
  unfold convA at hr
  split at hr <;> (first | (cases hr; done) | skip)
  rename_i A B hA hB
  split at hr <;> (first | (cases hr; done) | skip)
  · rename_i k n hd1 hd2
    injection hr with h1 h2
    subst h1; subst h2
    simp only [VRel] at hx
    subst hx
    refine ⟨_, ?_, rfl⟩
    simp [convert, run_underlying (TI.und_int hA hd1), run_underlying (TI.und_int hB hd2), Conv.intToInt]
  · rename_i s hd1 hd2
    injection hr with h1 h2
    subst h1; subst h2
    simp only [VRel] at hx
    subst hx
    refine ⟨_, ?_, rfl⟩
    simp [convert, run_underlying (TI.und_str hA hd1), run_underlying (TI.und_str hB hd2)]
  · rename_i e sz g x' hd1 hd2
    split at hr <;> (first | (cases hr; done) | skip)
    rename_i E cc n f hE hs
    injection hr with h1 h2
    subst h1; subst h2
    obtain ⟨hcc, hEd, rfl, hbytes⟩ := hc
    obtain ⟨a, cap, news, rfl, hn1, hn2, hn3, hn4⟩ := srcA_rel (by omega) h hx hs hcc
    obtain ⟨bs, rfl, ht⟩ := run_loadBytes n f news hbytes hn1 hn3
    obtain ⟨hu, _, _⟩ := TI.und_sl hA hd1
    have hlen : bs.length = n := by simpa using hn1
    have hE' := TI.und_int hE hEd
    refine ⟨.string (textOf n f), ?_, by simp only [VRel]⟩
    rw [run_convert_bytes_string w src dst _ a n cap hu hE' (TI.und_str hB hd2), ht]
    by_cases hm : 0 < n
    · obtain ⟨b, o, rfl, hcell⟩ := hn4 hm
      have hload := run_loadCells_list (P := P) (w := w) ⟨b, o, none⟩ (bs.map (Value.int .u8)) (fun j v hj => by
        rw [addr_add]; exact hcell j v hj)
      rw [List.length_map, hlen] at hload
      rw [run_bytesToString w ⟨b, o, none⟩ n cap bs hload, foldl_push]
    · have h0 : n = 0 := by omega
      subst h0
      have : bs = [] := List.eq_nil_of_length_eq_zero hlen
      subst this
      cases a with
      | none => simp [Conv.bytesToString]; rfl
      | some a => rw [run_bytesToString w a 0 cap [] (by simp [loadCells, loadCellsFrom])]; rfl

/-! ### builtins, and the rest -/
def lenA (T : Option TI) (x : AV) : Res :=
  match T with
  | some T => match T.d, x with
    | .str, .str s => .val True (.int .i64 s.size)
    | .sl _ _ _, .sl _ _ len => .val True (.int .i64 len)
    | .sl _ _ _, .fz _ len _ => .val True (.int .i64 len)
    | .sl _ _ _, .emp => .val True (.int .i64 0)
    | .arr n _ _, _ => .val True (.int .i64 n)
    | _, _ => .bad
  | none => .bad

theorem lenA_ok {P : Program} {t ty : TypeId} {φ : Phi} {w : World} {S : Nat → Prop} {x : AV} {v : Value} (hx : VRel φ w S x v)
    {c : Prop} {r : AV} (hr : lenA (TI.of P t) x = .val c r) : ∃ u, (Builtin.len_ #[t] ty #[v]).run P w = .ok u w ∧ VRel φ w S r u := by
  unfold lenA at hr
  split at hr <;> (first | (cases hr; done) | skip)
  rename_i T hT
  split at hr <;> (first | (cases hr; done) | skip) <;> rename_i hd <;> injection hr with h1 h2 <;> subst h1 <;> subst h2
  · simp only [VRel] at hx
    subst hx
    exact ⟨_, by simp [Builtin.len_, run_underlying (TI.und_str hT hd)]; rfl, by simp [VRel, goInt]⟩
  · rename_i e esz eagg id off len
    obtain ⟨hu, _⟩ := TI.und_sl hT hd
    have : ∃ a cap, v = .slice a len cap := by
      simp only [VRel] at hx
      rcases hx with ⟨h0, a, rfl⟩ | ⟨B, cap, _, rfl, _⟩
      · exact ⟨a, 0, by rw [h0]⟩
      · exact ⟨_, _, rfl⟩
    obtain ⟨a, cap, rfl⟩ := this
    exact ⟨_, by simp [Builtin.len_, run_underlying hu]; rfl, by simp [VRel, goInt]⟩
  · obtain ⟨hu, _⟩ := TI.und_sl hT hd
    simp only [VRel] at hx
    obtain ⟨a, cap, rfl, _⟩ := hx
    exact ⟨_, by simp [Builtin.len_, run_underlying hu]; rfl, by simp [VRel, goInt]⟩
  · obtain ⟨hu, _⟩ := TI.und_sl hT hd
    simp only [VRel] at hx
    obtain ⟨a, rfl⟩ := hx
    exact ⟨_, by simp [Builtin.len_, run_underlying hu]; rfl, by simp [VRel, goInt]⟩
  · obtain ⟨e, hu, _⟩ := TI.und_arr hT hd
    exact ⟨_, by simp [Builtin.len_, run_underlying hu]; rfl, by simp [VRel, goInt]⟩

def mmA (mx : Bool) : List AV → Res
  | [.int k a, .int k' b] => .val (k = k') (.int k (if mx then (if b > a then b else a) else (if b < a then b else a)))
  | _ => .bad

/-- One operation. -/
def nextA (st : Store) (x : AV) : Res :=
  match x with
  | .bp id 0 => match st id with
    | some (.it s pos) => if pos < s.size then .upd True (st.set id (.it s (pos + (Utf8.decode s pos).2))) (.tuple [.bool true, .int .i64 (pos : Int), .int .i32 ((Utf8.decode s pos).1 : Int)]) else .val True (.tuple [.bool false])
    | _ => .bad
  | _ => .bad
def stepO (P : Program) (o : Op) (fr : Fr) (st : Store) (nx : Nat) : Res :=
  match o with
  | .move x => .val True (ev fr x)
  | .assign x => .val True (ev fr x)
  | .pick c a b => match ev fr c with
    | .bool true => .val True (ev fr a)
    | .bool false => .val True (ev fr b)
    | _ => .bad
  | .alloc t => allocA (TI.of P t) st nx
  | .box _ x => boxA st nx (ev fr x)
  | .build t ps => buildA (TI.of P t) fr ps
  | .buildSlice t len ps => bsA P (TI.of P t) fr st nx len ps
  | .load t x => match TI.of P t with
    | some T => loadA T st (ev fr x)
    | none => .bad
  | .store t x y => match TI.of P t with
    | some T => storeA T st (ev fr x) (ev fr y)
    | none => .bad
  | .nilCheck x => match ev fr x with
    | .bp id f => .val True (.bp id f)
    | .ep id e f => .val True (.ep id e f)
    | .fp cs => .val True (.fp cs)
    | .func (.func f) l c => .val True (.func (.func f) l c)
    | _ => .bad
  | .binOp op t x y _ => binB P t op (ev fr x) (ev fr y)
  | .unOp .not _ x => match ev fr x with
    | .bool b => .val True (.bool (!b))
    | _ => .bad
  | .unOp .neg _ x => match ev fr x with
    | .int k n => .val True (.int k (k.wrap (0 - n)))
    | _ => .bad
  | .convert s d x => convA P s d st (ev fr x)
  | .makeMap _ r => match r with
    | none => .new True st (.mp []) (.map nx)
    | some _ => .bad
  | .lookup t x i ok => lookA P (TI.of P t) st (ev fr x) (ev fr i) ok
  | .mapUpdate t x i v => mapUpA P (TI.of P t) st (ev fr x) (ev fr i) (ev fr v)
  | .makeFunc fn first cap => .val True (.func fn (evs fr first) (evs fr cap))
  | .range t x => match TI.of P t, ev fr x with
    | some T, .str s => match T.d with
      | .str => .new True st (.it s 0) (.bp nx 0)
      | _ => .bad
    | _, _ => .bad
  | .next x true => nextA st (ev fr x)
  | .makeSlice t l c => makeA P (TI.of P t) st nx (ev fr l) (ev fr c)
  | .slice t x lo hi mx => sliceA (TI.of P t) st (ev fr x) (lo.map (ev fr)) (hi.map (ev fr)) (mx.map (ev fr))
  | .fieldAddr t x f => fieldA (TI.of P t) f (ev fr x)
  | .field t x f => fieldVA (TI.of P t) f (ev fr x)
  | .indexAddr t x i => idxA (TI.of P t) st (ev fr x) (ev fr i)
  | .index t x i => indexVA P t (ev fr x) (ev fr i)
  | .extract x i => match ev fr x with
    | .tuple l => match l[i]? with
      | some v => .val True v
      | none => .bad
    | _ => .bad
  | .call c => match c.callee with
    | .builtin .len => match c.argTypes.toList, c.args.toList with
      | [t], [x] => lenA (TI.of P t) (ev fr x)
      | _, _ => .bad
    | .builtin .max => mmA true (evs fr c.args)
    | .builtin .min => mmA false (evs fr c.args)
    | .builtin .append => match c.argTypes.toList, c.args.toList with
      | [t, t'], [x, y] => if t = t' then match TI.of P t with
        | some T => match T.d with
          | .sl e _ _ => match TI.of P e with
            | some E => if E.size = 0 then .bad else appA T E st nx (ev fr x) (ev fr y)
            | none => .bad
          | _ => .bad
        | none => .bad
        else .bad
      | _, _ => .bad
    | .value f => match ev fr f with
      | .func (.func f) [] cap => .call f (evs fr c.args ++ cap)
      | _ => .bad
    | _ => .bad
  | _ => .bad

theorem run_next {P : Program} {w w' : World} {s : Sem Value} {u : Value} (h : s.run P w = .ok u w') : (do pure (.value (← s)) : Sem Next).run P w = .ok (.value u) w' := by
  rw [Sem.run_bind, h]; rfl
theorem run_skip {P : Program} {w w' : World} {s : Sem Unit} (h : s.run P w = .ok () w') : (do s; pure .skip : Sem Next).run P w = .ok .skip w' := by
  rw [Sem.run_bind, h]; rfl

/-- What a result says of the run. -/
def ResOk (P : Program) (φ : Phi) (st : Store) (nx : Nat) (w : World)  : Res → Result Next → Prop
  | .val c v, r => c → Went φ st w r v st nx
  | .put c st', r => c → Went φ st w r .undef st' nx
  | .new c st' o v, r => c → Went φ st w r v (st'.set nx o) (nx + 1)
  | .upd c st' v, r => c → Went φ st w r v st' nx
  | .call f args, r => ∃ vs : Array Value, VRelL φ w (Own φ st) args vs.toList ∧ r = (callFunc f vs).run P w
  | .bad, _ => True

theorem went_pure {φ : Phi} {st : Store} {nx : Nat} {w : World} (h : Rel φ st nx w) {P : Program} {s : Sem Value} {av : AV} (hs : ∃ u, s.run P w = .ok u w ∧ VRel φ w (Own φ st) av u) :
    Went φ st w ((do pure (.value (← s)) : Sem Next).run P w) av st nx := by
  obtain ⟨u, h1, h2⟩ := hs
  exact Went.pure h h2 (run_next h1)
theorem went_new {φ : Phi} {st st' : Store} {nx : Nat} {w : World} {P : Program} {s : Sem Value} {av : AV} {o : Ob}
    (hs : ∃ u w' φ', s.run P w = .ok u w' ∧ Rel φ' (st'.set nx o) (nx + 1) w' ∧ Step φ st w φ' (st'.set nx o) w' ∧ VRel φ' w' (Own φ' (st'.set nx o)) av u) :
    Went φ st w ((do pure (.value (← s)) : Sem Next).run P w) av (st'.set nx o) (nx + 1) := by
  obtain ⟨u, w', φ', h1, h2, h3, h4⟩ := hs
  exact ⟨u, w', φ', .inl (run_next h1), h2, h3, h4⟩

theorem nextA_ok {P : Program} {φ : Phi} {st : Store} {nx : Nat} {w : World} (h : Rel φ st nx w) {x : AV} {u : Value} (hx : VRel φ w (Own φ st) x u) (ty : TypeId) :
    ResOk P φ st nx w (nextA st x) ((do pure (.value (← Instr.next u true ty)) : Sem Next).run P w) := by
  unfold nextA
  split
  · rename_i id
    split
    · rename_i s pos hid
      simp only [VRel] at hx
      obtain ⟨B, hB, rfl⟩ := hx
      have hb : w.heap[B.b]? = some (.stringIter s pos) := h.ob hid hB
      have hlt : B.b < w.heap.size := (Array.getElem?_eq_some_iff.1 hb).1
      have hg : (getObj B.b).run P w = .ok (.stringIter s pos) w := by simp [getObj, Sem.run, hb]
      have hset : ∀ o : Obj, (setObj B.b o).run P w = .ok () { w with heap := w.heap.setIfInBounds B.b o } := fun o => by simp [setObj, Sem.run, hb]
      split
      · rename_i hp
        intro _
        obtain ⟨r2, r3⟩ := h.upd id B (w' := { w with heap := w.heap.setIfInBounds B.b (.stringIter s (pos + (Utf8.decode s pos).2)) }) (.it s pos) (.it s (pos + (Utf8.decode s pos).2)) hid hB (by simp) (fun b hb' => by simp [Array.getElem?_setIfInBounds, Ne.symm hb']) rfl rfl rfl (fun _ => by
          show (w.heap.setIfInBounds B.b _)[B.b]? = _
          simp [hlt])
        exact ⟨.tuple #[.bool true, goInt pos, .int .i32 (Utf8.decode s pos).1], _, φ, .inl (run_next (by simp [Instr.next, hg, hset, hp])), r2, r3, by simp only [VRel]; exact ⟨_, rfl, by simp only [VRelL, VRel]; exact ⟨_, _, rfl, rfl, _, _, rfl, rfl, _, _, rfl, rfl, rfl⟩⟩⟩
      · rename_i hp
        intro _
        exact went_pure h ⟨.tuple #[.bool false], (by simp [Instr.next, hg, hp]), by simp only [VRel]; exact ⟨_, rfl, by simp only [VRelL, VRel]; exact ⟨_, _, rfl, rfl, rfl⟩⟩⟩
    · trivial
  · trivial
theorem loadA_val {T : TI} {st : Store} {x : AV} : ∀ r, loadA T st x = r → (∃ c v, r = .val c v) ∨ r = .bad := by
  intro r h
  unfold loadA at h
  split at h <;> (try split at h) <;> subst h <;> first | exact .inr rfl | exact .inl ⟨_, _, rfl⟩
theorem fieldA_val {T : Option TI} {k : Nat} {x : AV} : ∀ r, fieldA T k x = r → (∃ c v, r = .val c v) ∨ r = .bad := by
  intro r h
  unfold fieldA at h
  repeat' split at h
  all_goals subst h; first | exact .inr rfl | exact .inl ⟨_, _, rfl⟩
theorem fieldVA_val {T : Option TI} {k : Nat} {x : AV} : ∀ r, fieldVA T k x = r → (∃ c v, r = .val c v) ∨ r = .bad := by
  intro r h
  unfold fieldVA at h
  repeat' split at h
  all_goals subst h; first | exact .inr rfl | exact .inl ⟨_, _, rfl⟩
theorem idxA_val {T : Option TI} {st : Store} {x i : AV} : ∀ r, idxA T st x i = r → (∃ c v, r = .val c v) ∨ r = .bad := by
  intro r h
  unfold idxA at h
  repeat' split at h
  all_goals subst h; first | exact .inr rfl | exact .inl ⟨_, _, rfl⟩
theorem indexVA_val {P : Program} {t : TypeId} {x i : AV} : ∀ r, indexVA P t x i = r → (∃ c v, r = .val c v) ∨ r = .bad := by
  intro r h
  unfold indexVA at h
  repeat' split at h
  all_goals subst h; first | exact .inr rfl | exact .inl ⟨_, _, rfl⟩
theorem convA_val {P : Program} {s d : TypeId} {st : Store} {x : AV} : ∀ r, convA P s d st x = r → (∃ c v, r = .val c v) ∨ r = .bad := by
  intro r h
  unfold convA at h
  repeat' split at h
  all_goals subst h; first | exact .inr rfl | exact .inl ⟨_, _, rfl⟩
theorem sliceA_val {T : Option TI} {st : Store} {x : AV} {lo hi mx : Option AV} : ∀ r, sliceA T st x lo hi mx = r → (∃ c v, r = .val c v) ∨ r = .bad := by
  intro r h
  unfold sliceA at h
  repeat' split at h
  all_goals subst h; first | exact .inr rfl | exact .inl ⟨_, _, rfl⟩
theorem lenA_val {T : Option TI} {x : AV} : ∀ r, lenA T x = r → (∃ c v, r = .val c v) ∨ r = .bad := by
  intro r h
  unfold lenA at h
  repeat' split at h
  all_goals subst h; first | exact .inr rfl | exact .inl ⟨_, _, rfl⟩
theorem buildA_val {T : Option TI} {fr : Fr} {ps : Array (Nat × Operand)} : ∀ r, buildA T fr ps = r → (∃ c v, r = .val c v) ∨ r = .bad := by
  intro r h
  unfold buildA at h
  repeat' split at h
  all_goals subst h; first | exact .inr rfl | exact .inl ⟨_, _, rfl⟩
theorem binA_val {T : Option TI} {op : BinOp} {x y : AV} : ∀ r, binA T op x y = r → (∃ c v, r = .val c v) ∨ r = .bad := by
  intro r h
  unfold binA at h
  split at h <;> subst h <;> first | exact .inr rfl | exact .inl ⟨_, _, rfl⟩
theorem mmA_val {b : Bool} {l : List AV} : ∀ r, mmA b l = r → (∃ c v, r = .val c v) ∨ r = .bad := by
  intro r h
  unfold mmA at h
  split at h <;> subst h <;> first | exact .inr rfl | exact .inl ⟨_, _, rfl⟩
theorem storeA_put {T : TI} {st : Store} {x y : AV} : ∀ r, storeA T st x y = r → (∃ c v, r = .put c v) ∨ r = .bad := by
  intro r h
  unfold storeA at h
  repeat' split at h
  all_goals subst h; first | exact .inr rfl | exact .inl ⟨_, _, rfl⟩
theorem allocA_new {T : Option TI} {st : Store} {nx : Nat} : ∀ r, allocA T st nx = r → (∃ c s o v, r = .new c s o v) ∨ r = .bad := by
  intro r h
  unfold allocA at h
  repeat' split at h
  all_goals subst h; first | exact .inr rfl | exact .inl ⟨_, _, _, _, rfl⟩
theorem boxA_new {st : Store} {nx : Nat} {x : AV} : ∀ r, boxA st nx x = r → (∃ c s o v, r = .new c s o v) ∨ r = .bad := by
  intro r h
  unfold boxA at h
  repeat' split at h
  all_goals subst h; first | exact .inr rfl | exact .inl ⟨_, _, _, _, rfl⟩
theorem bsA_new {P : Program} {T : Option TI} {fr : Fr} {st : Store} {nx len : Nat} {ps : Array (Nat × Operand)} : ∀ r, bsA P T fr st nx len ps = r → (∃ c s o v, r = .new c s o v) ∨ r = .bad := by
  intro r h
  unfold bsA at h
  repeat' split at h
  all_goals subst h; first | exact .inr rfl | exact .inl ⟨_, _, _, _, rfl⟩
theorem makeA_new {P : Program} {T : Option TI} {st : Store} {nx : Nat} {l c : AV} : ∀ r, makeA P T st nx l c = r → (∃ c s o v, r = .new c s o v) ∨ r = .bad := by
  intro r h
  unfold makeA at h
  repeat' split at h
  all_goals subst h; first | exact .inr rfl | exact .inl ⟨_, _, _, _, rfl⟩
theorem appA_new {T E : TI} {st : Store} {nx : Nat} {x y : AV} : ∀ r, appA T E st nx x y = r → (∃ c s o v, r = .new c s o v) ∨ r = .bad := by
  intro r h
  unfold appA at h
  repeat' split at h
  all_goals subst h; first | exact .inr rfl | exact .inl ⟨_, _, _, _, rfl⟩

theorem run_max2 {P : Program} {w : World} (k : IntKind) (a b : Int) (ty : TypeId) (ts : Array TypeId) : (Builtin.max_ ts ty #[.int k a, .int k b]).run P w = .ok (.int k (if b > a then b else a)) w := by
  simp [Builtin.max_, Builtin.max2, List.foldlM]
theorem run_min2 {P : Program} {w : World} (k : IntKind) (a b : Int) (ty : TypeId) (ts : Array TypeId) : (Builtin.min_ ts ty #[.int k a, .int k b]).run P w = .ok (.int k (if b < a then b else a)) w := by
  simp [Builtin.min_, Builtin.min2, List.foldlM]

theorem VRelL.two {φ : Phi} {w : World} {S : Nat → Prop} {x y : AV} {vs : Array Value} (h : VRelL φ w S [x, y] vs.toList) : ∃ u v, vs = #[u, v] ∧ VRel φ w S x u ∧ VRel φ w S y v := by
  simp only [VRelL] at h
  obtain ⟨u, ys, e, h1, v, zs, e', h2, rfl⟩ := h
  subst e'
  exact ⟨u, v, Array.ext' e, h1, h2⟩

theorem stepO_ok {P : Program} {φ : Phi} {st : Store} {nx : Nat} {w : World} (h : Rel φ st nx w) {fr : Fr} {a : Act} (hs : Slots φ w (Own φ st) fr a.tmps) (o : Oper) :
    ResOk P φ st nx w (stepO P o.op fr st nx) ((execOp a.eval o).run P w) := by
  obtain ⟨dst, op, ty, pos, after, guard⟩ := o
  unfold stepO execOp
  cases op <;> dsimp only
  case move x => intro _; exact Went.pure h (ev_rel hs x) rfl
  case assign x => intro _; exact Went.pure h (ev_rel hs x) rfl
  case pick c x y =>
    have hc := ev_rel hs c
    split <;> (first | exact trivial | skip)
    · rename_i he
      rw [he] at hc
      simp only [VRel] at hc
      intro _
      exact Went.pure h (ev_rel hs x) (by simp [hc, asBool])
    · rename_i he
      rw [he] at hc
      simp only [VRel] at hc
      intro _
      exact Went.pure h (ev_rel hs y) (by simp [hc, asBool])
  case alloc t =>
    rcases allocA_new _ rfl with ⟨c, s, ob, v, he⟩ | he
    · rw [he]; intro _; exact went_new (allocA_ok h he)
    · rw [he]; trivial
  case box t x =>
    rcases boxA_new _ rfl with ⟨c, s, ob, v, he⟩ | he
    · rw [he]; intro _; exact went_new (boxA_ok h (ev_rel hs x) he)
    · rw [he]; trivial
  case build t ps =>
    rcases buildA_val _ rfl with ⟨c, v, he⟩ | he
    · rw [he]; intro hc; exact went_pure h (buildA_ok hs he hc)
    · rw [he]; trivial
  case buildSlice t len ps =>
    rcases bsA_new _ rfl with ⟨c, s, ob, v, he⟩ | he
    · rw [he]; intro hc; exact went_new (bsA_ok h hs he hc)
    · rw [he]; trivial
  case load t x =>
    split
    · rename_i T hT
      rcases loadA_val _ rfl with ⟨c, v, he⟩ | he
      · rw [he]; intro hc; exact went_pure h (loadA_ok hT h (ev_rel hs x) he hc)
      · rw [he]; trivial
    · trivial
  case store t x y =>
    split
    · rename_i T hT
      rcases storeA_put _ rfl with ⟨c, v, he⟩ | he
      · rw [he]
        intro hc
        obtain ⟨w', h1, h2, h3⟩ := storeA_ok hT h (ev_rel hs x) (ev_rel hs y) he hc
        exact ⟨undef, w', φ, .inr ⟨run_skip h1, rfl⟩, h2, h3, by simp only [VRel]⟩
      · rw [he]; trivial
    · trivial
  case nilCheck x =>
    have hx := ev_rel hs x
    split <;> (first | exact trivial | skip) <;> rename_i he <;> rw [he] at hx <;> intro _
    · have hx' := hx
      simp only [VRel] at hx
      obtain ⟨B, _, hv⟩ := hx
      exact Went.pure h hx' (by simp [hv])
    · have hx' := hx
      simp only [VRel] at hx
      obtain ⟨B, _, hv⟩ := hx
      exact Went.pure h hx' (by simp [hv])
    · have hx' := hx
      simp only [VRel] at hx
      obtain ⟨b, o', hv, _⟩ := hx
      exact Went.pure h hx' (by simp [hv])
    · have hx' := hx
      simp only [VRel] at hx
      obtain ⟨ls, cs, hv, _⟩ := hx
      exact Went.pure h hx' (by simp [hv])
  case binOp op t x y yt =>
    rcases binB_val _ rfl with ⟨c, v, he⟩ | he
    · rw [he]; intro hc; exact went_pure h (binB_ok t op _ _ x y _ _ (ev_rel hs x) (ev_rel hs y) c v he hc)
    · rw [he]; trivial
  case unOp uop t x =>
    have hx := ev_rel hs x
    cases uop <;> dsimp only <;> (first | exact trivial | skip) <;> split <;> (first | exact trivial | skip)
    · rename_i k n he
      rw [he] at hx
      simp only [VRel] at hx
      intro _
      exact went_pure h ⟨.int k (k.wrap (0 - n)), by simp [hx, Op.unary, Op.intArith], by simp [VRel]⟩
    · rename_i b he
      rw [he] at hx
      simp only [VRel] at hx
      intro _
      exact went_pure h ⟨.bool (!b), by simp [hx, Op.unary], by simp [VRel]⟩
  case convert s d x =>
    rcases convA_val _ rfl with ⟨c, v, he⟩ | he
    · rw [he]; intro hc; exact went_pure h (convA_ok h (ev_rel hs x) he hc)
    · rw [he]; trivial
  case makeFunc fn first cap =>
    intro _
    exact went_pure h ⟨_, rfl, by simp only [VRel]; exact ⟨_, _, rfl, evs_rel hs first, evs_rel hs cap⟩⟩
  case range t x =>
    show ResOk P φ st nx w (match TI.of P t, ev fr x with
      | some T, .str s => match T.d with
        | .str => .new True st (.it s 0) (.bp nx 0)
        | _ => .bad
      | _, _ => .bad) _
    split
    · rename_i T s hT hx
      split
      · rename_i hd
        intro _
        have hv := ev_rel hs x
        rw [hx] at hv
        simp only [VRel] at hv
        have hu : P.underlying t = some .string := by
          obtain ⟨d, hkt, hdd⟩ := TI.und_d hT
          rw [hd] at hdd
          rw [hkt]
          cases d <;> simp [TD.of] at hdd
          rfl
        obtain ⟨r1, r2⟩ := h.new (w' := w.alloc (.stringIter s 0)) (.stringIter s 0) rfl rfl rfl rfl ⟨w.heap.size, 1, 0⟩ rfl (.it s 0) (fun φ' S' _ _ => by show (w.heap.push _)[w.heap.size]? = _; rw [Array.getElem?_push, if_pos rfl])
        exact went_new ⟨.pointer (some ⟨w.heap.size, 0, none⟩), _, _, (by rw [hv]; simp [Instr.range, run_underlying hu, run_newObj]), r1, r2, by simp only [VRel]; exact ⟨_, Phi.put_same _ _ _, rfl⟩⟩
      · trivial
    · trivial
  case next x b =>
    cases b with
    | false => trivial
    | true => exact nextA_ok h (ev_rel hs x) _
  case makeMap t r =>
    cases r with
    | some _ => trivial
    | none =>
      intro _
      obtain ⟨r1, r2⟩ := h.new (w' := w.alloc (.map #[] 0)) (.map #[] 0) rfl rfl rfl rfl ⟨w.heap.size, 1, 0⟩ rfl (.mp []) (fun φ' S' _ _ => ⟨#[], 0, by show (w.heap.push _)[w.heap.size]? = _; rw [Array.getElem?_push, if_pos rfl], rfl⟩)
      exact went_new ⟨.map (some w.heap.size), _, _, (rfl : (Instr.makeMap t none).run P w = _), r1, r2, by simp only [VRel]; exact ⟨_, Phi.put_same _ _ _, rfl⟩⟩
  case lookup t x i ok =>
    rcases lookA_val _ rfl with ⟨c, v, he⟩ | he
    · rw [he]; intro hc; exact went_pure h (lookA_ok h (ev_rel hs x) (ev_rel hs i) he hc)
    · rw [he]; trivial
  case mapUpdate t x i v =>
    rcases mapUpA_put _ rfl with ⟨c, s, he⟩ | he
    · rw [he]
      intro hc
      obtain ⟨w', h1, h2, h3⟩ := mapUpA_ok h (ev_rel hs x) (ev_rel hs i) (ev_rel hs v) he hc
      exact ⟨undef, w', φ, .inr ⟨run_skip h1, rfl⟩, h2, h3, by simp only [VRel]⟩
    · rw [he]; trivial
  case makeSlice t l c =>
    rcases makeA_new _ rfl with ⟨c, s, ob, v, he⟩ | he
    · rw [he]; intro hc; exact went_new (makeA_ok h (ev_rel hs l) (ev_rel hs _) he hc)
    · rw [he]; trivial
  case slice t x lo hi mx =>
    rcases sliceA_val _ rfl with ⟨c, v, he⟩ | he
    · rw [he]; intro hc; exact went_pure h (sliceA_ok h hs (ev_rel hs x) lo hi mx he hc)
    · rw [he]; trivial
  case fieldAddr t x f =>
    rcases fieldA_val _ rfl with ⟨c, v, he⟩ | he
    · rw [he]; intro hc; exact went_pure h (fieldA_ok (ev_rel hs x) he hc)
    · rw [he]; trivial
  case field t x f =>
    rcases fieldVA_val _ rfl with ⟨c, v, he⟩ | he
    · rw [he]; intro hc; exact went_pure h (fieldVA_ok (ev_rel hs x) he hc)
    · rw [he]; trivial
  case indexAddr t x i =>
    rcases idxA_val _ rfl with ⟨c, v, he⟩ | he
    · rw [he]; intro hc; exact went_pure h (idxA_ok h (ev_rel hs x) (ev_rel hs i) he hc)
    · rw [he]; trivial
  case index t x i =>
    rcases indexVA_val _ rfl with ⟨c, v, he⟩ | he
    · rw [he]; intro hc; exact went_pure h (indexVA_ok (ev_rel hs x) (ev_rel hs i) he hc)
    · rw [he]; trivial
  case extract x i =>
    have hx := ev_rel hs x
    split <;> (first | exact trivial | skip)
    rename_i l he
    rw [he] at hx
    simp only [VRel] at hx
    obtain ⟨vs, hv, hl⟩ := hx
    split <;> (first | exact trivial | skip)
    rename_i v hv'
    obtain ⟨u, h1, h2⟩ := hl.get' i v hv'
    intro _
    exact went_pure h ⟨u, by simp [hv, Instr.extract, show vs[i]? = some u by simpa using h1], h2⟩
  case call c =>
    obtain ⟨callee, args, argTypes⟩ := c
    dsimp only
    split
    · -- len
      rename_i hcal
      split <;> (first | exact trivial | skip)
      rename_i t x e1 e2
      obtain rfl : argTypes = #[t] := Array.ext' e1
      obtain rfl : args = #[x] := Array.ext' e2
      rcases lenA_val _ rfl with ⟨c, v, he⟩ | he
      · rw [he]
        intro hc
        obtain ⟨u, h1, h2⟩ := lenA_ok (ty := ty) (ev_rel hs x) he
        refine Went.pure h h2 ?_
        simp only [resolve, Sem.run_bind, Sem.run_pure, Result.andThen_ok, invoke, builtin]
        simp [h1]
      · rw [he]; trivial
    · rcases mmA_val _ rfl with ⟨c, v, he⟩ | he
      · have hv := evs_rel hs args
        rw [he]
        intro hc
        unfold mmA at he
        split at he <;> (first | (cases he; done) | skip)
        rename_i k a' k' b' hl
        rw [hl] at hv
        obtain ⟨u, v', e, h1, h2⟩ := hv.two
        simp only [VRel] at h1 h2
        injection he with e1 e2
        subst e1; subst e2; subst hc; subst h1; subst h2
        refine Went.pure h (u := .int k (if b' > a' then b' else a')) (by simp [VRel]) ?_
        simp only [resolve, Sem.run_bind, Sem.run_pure, Result.andThen_ok, invoke, builtin, e, run_max2]
      · rw [he]; trivial
    · rcases mmA_val _ rfl with ⟨c, v, he⟩ | he
      · have hv := evs_rel hs args
        rw [he]
        intro hc
        unfold mmA at he
        split at he <;> (first | (cases he; done) | skip)
        rename_i k a' k' b' hl
        rw [hl] at hv
        obtain ⟨u, v', e, h1, h2⟩ := hv.two
        simp only [VRel] at h1 h2
        injection he with e1 e2
        subst e1; subst e2; subst hc; subst h1; subst h2
        refine Went.pure h (u := .int k (if b' < a' then b' else a')) (by simp [VRel]) ?_
        simp only [resolve, Sem.run_bind, Sem.run_pure, Result.andThen_ok, invoke, builtin, e, run_min2]
      · rw [he]; trivial
    · split <;> (first | exact trivial | skip)
      rename_i t t' x y e1 e2
      obtain rfl : argTypes = #[t, t'] := Array.ext' e1
      obtain rfl : args = #[x, y] := Array.ext' e2
      split <;> (first | exact trivial | skip)
      rename_i htt
      subst htt
      split <;> (first | exact trivial | skip)
      rename_i T hT
      split <;> (first | exact trivial | skip)
      rename_i e sz ag hd
      split <;> (first | exact trivial | skip)
      rename_i E hE
      split <;> (first | exact trivial | skip)
      rename_i hsz
      rcases appA_new _ rfl with ⟨c, s, ob, v, he⟩ | he
      · rw [he]
        intro hc
        have := went_new (P := P) (appA_ok (ty := ty) hT hd hE hsz h (ev_rel hs x) (ev_rel hs y) he hc)
        simp only [resolve, Sem.run_bind, Sem.run_pure, Result.andThen_ok, invoke, builtin, List.map_toArray, List.map_cons, List.map_nil]
        simpa [Sem.run_bind] using this
      · rw [he]; trivial
    · rename_i f
      have hf := ev_rel hs f
      split <;> (first | exact trivial | skip)
      rename_i g cap he
      rw [he] at hf
      simp only [VRel, VRelL] at hf
      obtain ⟨ls, cs, hv, hl, hcs⟩ := hf
      refine ⟨args.map a.eval ++ cs, by rw [Array.toList_append]; exact (evs_rel hs args).append hcs, ?_⟩
      have : ls = #[] := Array.ext' hl
      subst this
      simp [resolve, hv, Deferred.ofValue, Sem.run_bind, invoke]
    · trivial
  all_goals trivial
end Go.Proofs.Ytmolblphgbnddaa.Fw
