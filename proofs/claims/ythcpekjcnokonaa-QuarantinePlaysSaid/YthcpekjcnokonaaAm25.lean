/- Rows whose spare places are seen, copies, clearing, comparisons with nil: formulas, each sound; and their results can be named. -/
import Derived.Test.YthcpekjcnokonaaAm24
import Derived.Test.YthcpekjcnokonaaAm11
import Derived.Lib.AppendZerosOnto
set_option linter.unusedVariables false
set_option linter.unusedSimpArgs false
namespace Go.AM
open Go.RowKit

def noU (xs : List (List AV)) : Prop := ∀ x ∈ xs, ∀ y ∈ x, y ≠ .u
/-- What a slice's value holds. -/
def elemsK (F : Nat → Option Blk) (v : AV) (K : List (List AV) → Prop) : Prop :=
  match v with
  | .fv m sz off len _ => match F m with
    | some (.full _ sz' xs) => bif Nat.beq sz sz' then noU ((xs.drop off).take len) ∧ K ((xs.drop off).take len) else False
    | _ => False
  | .sle => K []
  | v => match elemsOf F v with
    | some (_, ys) => K ys
    | none => False
/-- The length of a slice's value, and what its first m places hold. -/
def firstK (F : Nat → Option Blk) (v : AV) (m : Nat) (K : Nat → List (List AV) → Prop) : Prop :=
  match v with
  | .fv n sz off len _ => match F n with
    | some (.full _ sz' xs) => bif Nat.beq sz sz' then noU ((xs.drop off).take (min len m)) ∧ K len ((xs.drop off).take (min len m)) else False
    | _ => False
  | v => match elemsOf F v with
    | some (_, ys) => K ys.length (ys.take m)
    | none => False
/-- What is appended: a slice, or so many zeros. -/
def newsK (F : Nat → Option Blk) (z : List AV) (int : Bool) (v : AV) (K : List (List AV) → Prop) : Prop :=
  match int with
  | true => match v with
    | .i .i64 k => 0 ≤ k ∧ k ≤ 140737488355328 ∧ K (List.replicate k.toNat z)
    | _ => False
  | false => elemsK F v K
def isInt (P : Program) (t : TypeId) : Bool :=
  match P.underlying t with
  | some (.int _) => true
  | _ => false

def appendFK (P : Program) (nm : Nat) (t : TypeId) (int : Bool) (F : Nat → Option Blk) (n sz off len cap : Nat) (x : AV) (K : AV → Upd → Prop) : Prop :=
  match elemT P t with
  | some e => match P.info? e, zeroCells P e, F n with
    | some i, some z, some (.full e' sz' xs) =>
      bif Nat.beq e e' && (Nat.beq sz sz' && (Nat.beq i.size sz && (Nat.beq z.length i.size && Nat.blt 0 i.size))) then
        newsK F z int x fun ys => (∀ y ∈ ys, y.length = sz) ∧ (match int with | true => ys.length * i.bytes ≤ 140737488355328 | false => True) ∧
          brP (decide (len + ys.length ≤ cap)) (K (.fv n sz off (len + ys.length) cap) (.put n (.full e sz (splice xs (off + len) ys))))
            (ys.length * i.bytes ≤ 140737488355328 ∧ (len + ys.length) * i.bytes ≤ 140737488355328 ∧ len + ys.length ≤ 9223372036854775807 ∧ noU ((xs.drop off).take len) ∧
              K (.own nm) (.new (.row e sz ((xs.drop off).take len ++ ys))))
      else False
    | _, _, _ => False
  | none => False

def copyK (P : Program) (t : TypeId) (F : Nat → Option Blk) (d s : AV) (K : AV → Upd → Prop) : Prop :=
  match P.underlying t with
  | some (.slice e) => match sizeT P e with
    | some (sz + 1) =>
      match d with
      | .fv n sz' off len _ => match F n with
        | some (.full e' sz0 xs) => bif Nat.beq sz' sz0 && Nat.beq (sz + 1) sz0 then firstK F s len fun L ys => (∀ y ∈ ys, y.length = sz + 1) ∧ K (.i .i64 ((min L len : Nat) : Int)) (.put n (.full e' sz0 (splice xs off ys))) else False
        | _ => False
      | .own n => match F n with
        | some (.row e' sz0 xs) => bif Nat.beq (sz + 1) sz0 then firstK F s xs.length fun L ys => (∀ y ∈ ys, y.length = sz + 1) ∧ K (.i .i64 ((min L xs.length : Nat) : Int)) (.put n (.row e' sz0 (splice xs 0 ys))) else False
        | _ => False
      | .row n sz' off len => match F n with
        | some (.row e' sz0 xs) => bif Nat.beq sz' sz0 && Nat.beq (sz + 1) sz0 then firstK F s len fun L ys => (∀ y ∈ ys, y.length = sz + 1) ∧ K (.i .i64 ((min L len : Nat) : Int)) (.put n (.row e' sz0 (splice xs off ys))) else False
        | _ => False
      | _ => False
    | _ => False
  | _ => False

def clearK (P : Program) (t : TypeId) (F : Nat → Option Blk) (d : AV) (K : AV → Upd → Prop) : Prop :=
  match P.underlying t with
  | some (.slice e) => match sizeT P e, zeroCells P e with
    | some (sz + 1), some z =>
      bif Nat.beq z.length (sz + 1) then
        match d with
        | .fv n sz' off len _ => match F n with
          | some (.full e' sz0 xs) => bif Nat.beq sz' sz0 && Nat.beq (sz + 1) sz0 then K (.tup []) (.put n (.full e' sz0 (splice xs off (List.replicate len z)))) else False
          | _ => False
        | _ => False
      else False
    | _, _ => False
  | _ => False

def optN (o : Option AV) (d : Nat) (K : Nat → Prop) : Prop :=
  match o with
  | none => K d
  | some (.i _ n) => 0 ≤ n ∧ K n.toNat
  | _ => False
def sliceFK (P : Program) (t : TypeId) (x : AV) (lo hi mx : Option AV) (K : AV → Prop) : Prop :=
  match x, P.underlying t with
  | .fv n sz off len cap, some (.slice e) => match sizeT P e with
    | some sz' => bif Nat.beq sz sz' && (hi.isSome || !mx.isSome) then
        optN lo 0 fun l => optN hi len fun h => optN mx cap fun m => l ≤ h ∧ h ≤ m ∧ m ≤ cap ∧ K (.fv n sz (off + l) (h - l) (m - l))
      else False
    | none => False
  | _, _ => False

/-- Is a value that can be nil, nil? -/
def nilS : AV → Option Bool
  | .nil => some true
  | .sle | .sl (_ :: _) => some false
  | _ => none
def nilP : AV → Option Bool
  | .np => some true
  | .pp _ | .ptr _ _ | .eptr _ _ _ _ => some false
  | _ => none
def nilF : AV → Option Bool
  | .nf => some true
  | .fn _ _ _ => some false
  | _ => none
def isNilV : AV → Bool
  | .nil | .np | .nf => true
  | _ => false
def nilA (P : Program) (t : TypeId) (a b : AV) : Option Bool :=
  match P.underlying t, b with
  | some (.slice _), .nil => nilS a
  | some (.pointer _), .np => nilP a
  | some (.func _ _ _), .nf => nilF a
  | _, _ => none
def nilK (P : Program) (op : BinOp) (t : TypeId) (a b : AV) (K : AV → Prop) : Prop :=
  match nilA P t a b with
  | some r => match op with
    | .eql => K (.b r)
    | .neq => K (.b (!r))
    | _ => False
  | none => False

def isFv : AV → Bool
  | .fv _ _ _ _ _ | .sle => true
  | _ => false
/-- Is it one of these operations? -/
def isX (P : Program) (o : Oper) (ρ : Env) : Bool :=
  match o.op with
  | .slice _ x _ _ _ => match ρ x with
    | some (.fv _ _ _ _ _) => true
    | _ => false
  | .binOp _ _ _ y _ => match ρ y with
    | some v => isNilV v
    | none => false
  | .call c => match c.callee with
    | .builtin .cap | .builtin .copy | .builtin .clear => true
    | .builtin .len => match c.args.toList with
      | [x] => match ρ x with
        | some (.mp _) => true
        | some v => isFv v
        | none => false
      | _ => false
    | .builtin .append => match c.args.toList with
      | [x, _] => match ρ x with
        | some (.fv _ _ _ _ _) => true
        | _ => false
      | _ => false
    | _ => false
  | _ => false
def opX (P : Program) (o : Oper) (nm : Nat) (ρ : Env) (F : Nat → Option Blk) (K : AV → Upd → Prop) : Prop :=
  match o.op with
  | .slice t x lo hi mx => match ρ x with
    | some v =>
      match lo.map ρ, hi.map ρ, mx.map ρ with
      | some none, _, _ => False
      | _, some none, _ => False
      | _, _, some none => False
      | l, h, m => sliceFK P t v l.join h.join m.join fun r => K r .none
    | none => False
  | .binOp op t x y _ => match ρ x, ρ y with
    | some a, some b => nilK P op t a b fun r => K r .none
    | _, _ => False
  | .call c => match c.callee with
    | .builtin .cap => match c.argTypes[0]?, c.args.toList with
      | some t, [x] => match ρ x, P.underlying t with
        | some (.fv _ _ _ _ cap), some (.slice _) => K (.i .i64 cap) .none
        | _, _ => False
      | _, _ => False
    | .builtin .len => match c.argTypes[0]?, c.args.toList with
      | some t, [x] => match ρ x, P.underlying t with
        | some (.fv _ _ _ len _), some (.slice _) => K (.i .i64 len) .none
        | some .sle, some (.slice _) => K (.i .i64 0) .none
        | _, _ => False
      | _, _ => False
    | .builtin .copy => match c.argTypes.toList, c.args.toList with
      | [t, _], [d, s] => match ρ d, ρ s with
        | some a, some b => copyK P t F a b K
        | _, _ => False
      | _, _ => False
    | .builtin .clear => match c.argTypes.toList, c.args.toList with
      | [t], [d] => match ρ d with
        | some a => clearK P t F a K
        | _ => False
      | _, _ => False
    | .builtin .append => match c.argTypes.toList, c.args.toList with
      | [t, t'], [s, x] => match ρ s, ρ x with
        | some (.fv n sz off len cap), some b => bif isInt P t' || Nat.beq t t' then appendFK P nm t (isInt P t') F n sz off len cap b K else False
        | _, _ => False
      | _, _ => False
    | _ => False
  | _ => False

section
variable {P : Program} {o : Oper} {a : Act} {w : World} {β : Beta} {ok : Nat → Prop} {σ : Heap} {nm : Nat} {ρ : Env} {F : Nat → Option Blk}

theorem rep_fv {n sz off len cap : Nat} {x : Value} (h : ARep w β ok (.fv n sz off len cap) x) :
    ∃ A g l c, x = .slice A len cap ∧ β[n]? = some (some (.slice (some ⟨g, 0, none⟩) l c)) ∧ len ≤ cap ∧ off + cap ≤ c ∧ (0 < cap → A = some ⟨g, off * sz, none⟩) := by
  cases h with
  | p hp => cases hp
  | fv h hc hin ha => exact ⟨_, _, _, _, rfl, h, hc, hin, ha⟩

theorem blk_full {n e sz g l c : Nat} {xs : List (List AV)} (hg : GoodBlk w β ok n (.full e sz xs)) (hb : β[n]? = some (some (.slice (some ⟨g, 0, none⟩) l c))) :
    c = xs.length ∧ xs.length ≤ maxLen ∧ ∃ cur : Array Value, w.heap[g]? = some (.cells cur e (0, 0)) ∧ cur.size = xs.length * sz ∧
      ∀ (j : Nat) (x : List AV), xs[j]? = some x → x.length = sz ∧ ∀ (t : Nat) (y : AV), x[t]? = some y → y = .u ∨ ∃ c, cur[j * sz + t]? = some c ∧ c.oneCell' = true ∧ PRep w ok y c := by
  cases hg with
  | full h0 h1 hm hs hr =>
    rw [hb] at h0
    simp only [Option.some.injEq, Value.slice.injEq, Addr.mk.injEq, and_true] at h0
    obtain ⟨rfl, rfl, rfl⟩ := h0
    exact ⟨rfl, hm, _, h1, hs, hr⟩

/-- What a stretch of such a row holds. -/
theorem full_part {sz off len : Nat} {xs : List (List AV)} {cur : Array Value} (hs : cur.size = xs.length * sz)
    (hr : ∀ (j : Nat) (x : List AV), xs[j]? = some x → x.length = sz ∧ ∀ (t : Nat) (y : AV), x[t]? = some y → y = .u ∨ ∃ c, cur[j * sz + t]? = some c ∧ c.oneCell' = true ∧ PRep w ok y c)
    (hle : off + len ≤ xs.length) (hu : noU ((xs.drop off).take len)) :
    let news := (cur.toList.drop (off * sz)).take (len * sz)
    news.length = len * sz ∧ (∀ (j : Nat) (u : Value), news[j]? = some u → cur[off * sz + j]? = some u) ∧ (∀ u ∈ news, u.oneCell' = true) ∧ RowRep w ok sz ((xs.drop off).take len) news := by
  intro news
  have hmul : off * sz + len * sz ≤ xs.length * sz := by rw [← Nat.add_mul]; exact Nat.mul_le_mul_right _ hle
  have hget : ∀ (j : Nat), news[j]? = if j < len * sz then cur[off * sz + j]? else none := by
    intro j
    simp only [news, List.getElem?_take, List.getElem?_drop, Array.getElem?_toList]
  have hyget : ∀ (j : Nat) (x : List AV), ((xs.drop off).take len)[j]? = some x → xs[off + j]? = some x ∧ j < len := by
    intro j x hx
    rw [List.getElem?_take] at hx
    split at hx
    · rw [List.getElem?_drop] at hx; exact ⟨hx, by assumption⟩
    · simp at hx
  have hcell : ∀ (j : Nat) (x : List AV), ((xs.drop off).take len)[j]? = some x → ∀ (t : Nat) (y : AV), x[t]? = some y → ∃ c, news[j * sz + t]? = some c ∧ c.oneCell' = true ∧ PRep w ok y c := by
    intro j x hj t y hy
    obtain ⟨h1, h2⟩ := hyget j x hj
    obtain ⟨w1, w2⟩ := hr _ _ h1
    rcases w2 t y hy with h3 | ⟨c, q1, q2, q3⟩
    · exact absurd h3 (hu x (List.mem_iff_getElem?.2 ⟨j, hj⟩) y (List.mem_iff_getElem?.2 ⟨t, hy⟩))
    · refine ⟨c, ?_, q2, q3⟩
      have ht : t < sz := by have := (List.getElem?_eq_some_iff.1 hy).1; omega
      rw [hget, if_pos (mul_in h2 ht), ← q1, Nat.add_mul]
      congr 1
      omega
  refine ⟨by simp only [news, List.length_take, List.length_drop, Array.length_toList]; omega, fun j u hu => ?_, fun u hu => ?_, fun j x hx => ⟨(hr _ _ (hyget j x hx).1).1, hcell j x hx⟩⟩
  · rw [hget] at hu
    split at hu
    · exact hu
    · simp at hu
  · obtain ⟨j, hj⟩ := List.mem_iff_getElem?.1 hu
    have hjl : j < len * sz := by
      rw [hget] at hj
      split at hj
      · assumption
      · simp at hj
    have hsz0 : 0 < sz := by
      rcases Nat.eq_zero_or_pos sz with e | e
      · subst e; omega
      · exact e
    have hq : j / sz < len := by rw [Nat.div_lt_iff_lt_mul hsz0]; exact hjl
    have hx0 : ((xs.drop off).take len)[j / sz]? = some xs[off + j / sz] := by
      rw [List.getElem?_take, if_pos hq, List.getElem?_drop]
      exact List.getElem?_eq_getElem (by omega)
    have hw0 := (hr _ _ (hyget _ _ hx0).1).1
    have hr0 : j % sz < (xs[off + j / sz]'(by omega)).length := by rw [hw0]; exact Nat.mod_lt _ hsz0
    obtain ⟨c, q1, q2, _⟩ := hcell _ _ hx0 (j % sz) _ (List.getElem?_eq_getElem hr0)
    have hdm : j / sz * sz + j % sz = j := by rw [Nat.mul_comm]; exact Nat.div_add_mod _ _
    rw [hdm, hj] at q1
    injection q1 with q1
    rw [q1]; exact q2

/-- The source of a copy or an append, as it lies in memory. -/
theorem elemsK_src {x : AV} {xv : Value} {K : List (List AV) → Prop} (h : elemsK F x K) (hx : ARep w β ok x xv) (hm : Mem w β ok σ) (hF : ∀ n c, F n = some c → look n σ = some c) :
    ∃ ys, K ys ∧ ∀ sz, (∀ y ∈ ys, y.length = sz) → ∃ A c news, xv = .slice A ys.length c ∧ news.length = ys.length * sz ∧ (0 < ys.length → ∃ ad, A = some ad ∧ ∀ (j : Nat) (u : Value), news[j]? = some u → w.cell? (ad.add j) = some u) ∧
      (∀ u ∈ news, u.oneCell' = true) ∧ RowRep w ok sz ys news := by
  unfold elemsK at h
  split at h
  · rename_i m sz off len cap
    split at h
    · rename_i e sz' xs hFm
      obtain ⟨hb, hu, hK⟩ := bif_elim h
      have hb' := beq_nat hb
      subst hb'
      obtain ⟨A, g, l, c, rfl, hbt, h1, h2, h3⟩ := rep_fv hx
      obtain ⟨rfl, hmx, cur, hh, hcs, hr⟩ := blk_full (hm.blks m _ (hF m _ hFm)) hbt
      have hle : off + len ≤ xs.length := by omega
      have hlen : ((xs.drop off).take len).length = len := by simp; omega
      refine ⟨_, hK, fun sz' hsz' => ?_⟩
      by_cases h0 : len = 0
      · subst h0
        exact ⟨A, cap, [], by simp, by simp, by simp, by simp, fun j x hx => by simp at hx⟩
      · have hsz : sz = sz' := by
          have hx0 : ((xs.drop off).take len)[0]? = some xs[off] := by
            rw [List.getElem?_take, if_pos (by omega), List.getElem?_drop]
            exact List.getElem?_eq_getElem (by omega)
          rw [← hsz' _ (List.mem_iff_getElem?.2 ⟨0, hx0⟩)]
          exact ((hr off _ (List.getElem?_eq_getElem (by omega))).1).symm
        subst hsz
        obtain ⟨p1, p2, p3, p4⟩ := full_part hcs hr hle hu
        refine ⟨A, cap, _, by rw [hlen], by rw [hlen]; exact p1, fun _ => ⟨_, h3 (by omega), fun j u hu => ?_⟩, p3, p4⟩
        rw [Addr.add_lit]
        have := p2 j u hu
        simp [World.cell?, hh, this]
    · exact h.elim
  · obtain ⟨A, c, rfl⟩ := rep_sle hx
    exact ⟨_, h, fun sz hsz => ⟨some A, c, [], rfl, by simp, by simp, by simp, fun j x hx => by simp at hx⟩⟩
  · split at h
    · rename_i s ys he
      exact ⟨_, h, fun sz hsz => src_rep hx hm hF he hsz⟩
    · exact h.elim

/-- Cells that are written over a row with its spare places. -/
theorem put_full {n e sz g l : Nat} {xs ys : List (List AV)} {off : Nat} {cur : Array Value} {news : List Value} (hm : Mem w β ok σ) (hl : look n σ = some (.full e sz xs)) (hb : β[n]? = some (some (.slice (some ⟨g, 0, none⟩) l xs.length)))
    (hmx : xs.length ≤ maxLen) (hh : w.heap[g]? = some (.cells cur e (0, 0))) (hcs : cur.size = xs.length * sz)
    (hr : ∀ (j : Nat) (x : List AV), xs[j]? = some x → x.length = sz ∧ ∀ (t : Nat) (y : AV), x[t]? = some y → y = .u ∨ ∃ c, cur[j * sz + t]? = some c ∧ c.oneCell' = true ∧ PRep w ok y c)
    (hnl : news.length = ys.length * sz) (hnr : RowRep w ok sz ys news) (hle : off + ys.length ≤ xs.length) :
    OpOK w β ok σ nm (w.setRow g (splice cur.toList (off * sz) news).toArray) β ok (.put n (.full e sz (splice xs off ys))) := by
  have hmul : off * sz + news.length ≤ cur.toList.length := by
    rw [Array.length_toList (xs := cur), hnl, hcs, ← Nat.add_mul]; exact Nat.mul_le_mul_right _ hle
  have hbo : blockOf β n = some g := by rw [blockOf_some hb]; rfl
  have hf : Fr (fun k => blockOf β n = some k) w (w.setRow g (splice cur.toList (off * sz) news).toArray) :=
    ⟨rfl, rfl, rfl, by simp, fun k hk hne => setRow_other w g k _ (fun e => hne (by subst e; exact hbo))⟩
  have hfr : Fr (live β σ) w (w.setRow g (splice cur.toList (off * sz) news).toArray) := hf.mono (fun k hk => ⟨n, _, hl, hk⟩)
  have hxl := length_splice' xs off ys hle
  refine OpOK.put hm hl hf (.full (by rw [hxl]; exact hb) (setRow_heap w g cur _ e _ hh) (by rw [hxl]; exact hmx) (by rw [List.size_toArray, length_splice' _ _ _ hmul, Array.length_toList (xs := cur), hcs, hxl]) (fun j x hx => ?_))
  rw [get_splice _ _ _ hle] at hx
  have conv : ∀ (q : Nat), q < cur.size → (splice cur.toList (off * sz) news).toArray[q]? = if off * sz ≤ q ∧ q < off * sz + news.length then news[q - off * sz]? else cur[q]? := by
    intro q hq
    rw [List.getElem?_toArray, get_splice _ _ _ hmul]
    simp
  split at hx
  · rename_i hc
    obtain ⟨w1, w2⟩ := hnr _ _ hx
    refine ⟨w1, fun t y hy => .inr ?_⟩
    obtain ⟨c, q1, q2, q3⟩ := w2 t y hy
    refine ⟨c, ?_, q2, q3.mono (hm.okfr hfr) (fun _ h => h)⟩
    have ht : t < sz := by have := (List.getElem?_eq_some_iff.1 hy).1; omega
    have h1 := mul_in (show j - off < ys.length by omega) ht
    have h2 : j * sz = (j - off) * sz + off * sz := by rw [← Nat.add_mul]; congr 1; omega
    rw [conv _ (by rw [hcs]; exact mul_in (by omega) ht), if_pos (by omega), ← q1]
    congr 1
    omega
  · rename_i hc
    obtain ⟨w1, w2⟩ := hr _ _ hx
    refine ⟨w1, fun t y hy => ?_⟩
    rcases w2 t y hy with h3 | ⟨c, q1, q2, q3⟩
    · exact .inl h3
    · refine .inr ⟨c, ?_, q2, q3.mono (hm.okfr hfr) (fun _ h => h)⟩
      have ht : t < sz := by have := (List.getElem?_eq_some_iff.1 hy).1; omega
      have hq := (Array.getElem?_eq_some_iff.1 q1).1
      rw [conv _ hq, if_neg ?_]
      · exact q1
      · rintro ⟨e1, e2⟩
        rw [hnl, ← Nat.add_mul] at e2
        have h4 : off ≤ j := by
          rcases Nat.lt_or_ge j off with h5 | h5
          · have : (j + 1) * sz ≤ off * sz := Nat.mul_le_mul_right _ h5
            rw [Nat.add_mul] at this
            omega
          · exact h5
        have h6 : j < off + ys.length := by
          rcases Nat.lt_or_ge j (off + ys.length) with h5 | h5
          · exact h5
          · have : (off + ys.length) * sz ≤ j * sz := Nat.mul_le_mul_right _ h5
            omega
        exact hc ⟨h4, h6⟩

/-- Cells that are written over a row. -/
theorem put_row {n e sz g c : Nat} {xs ys : List (List AV)} {off : Nat} {cells news : List Value} (hm : Mem w β ok σ) (hl : look n σ = some (.row e sz xs)) (hb : β[n]? = some (some (.slice (some ⟨g, 0, none⟩) xs.length c)))
    (ho : w.ownsRow 0 e sz (.slice (some ⟨g, 0, none⟩) xs.length c) xs.length cells) (hr : RowRep w ok sz xs cells)
    (hnl : news.length = ys.length * sz) (hnr : RowRep w ok sz ys news) (hle : off + ys.length ≤ xs.length) :
    ∃ cur : Array Value, w.heap[g]? = some (.cells cur e (0, 0)) ∧ off * sz + news.length ≤ cur.size ∧ OpOK w β ok σ nm (w.setRow g (splice cur.toList (off * sz) news).toArray) β ok (.put n (.row e sz (splice xs off ys))) := by
  rcases ho.2 with ⟨e1, _⟩ | ⟨g', cap, cur, e1, hg0, hh, hnc, hcm, hcs, htake⟩
  · simp at e1
  · simp only [Value.slice.injEq, Option.some.injEq, Addr.mk.injEq, and_true] at e1
    obtain ⟨rfl, _, rfl⟩ := e1
    have hcap : xs.length * sz ≤ c * sz := Nat.mul_le_mul_right _ hnc
    have hin : (off + ys.length) * sz ≤ xs.length * sz := Nat.mul_le_mul_right _ hle
    have hmul : off * sz + news.length ≤ cur.toList.length := by
      rw [Array.length_toList (xs := cur), hcs, hnl, ← Nat.add_mul]; omega
    have hbo : blockOf β n = some g := by rw [blockOf_some hb]; rfl
    have hf : Fr (fun k => blockOf β n = some k) w (w.setRow g (splice cur.toList (off * sz) news).toArray) :=
      ⟨rfl, rfl, rfl, by simp, fun k hk hne => setRow_other w g k _ (fun e => hne (by subst e; exact hbo))⟩
    have hfr : Fr (live β σ) w (w.setRow g (splice cur.toList (off * sz) news).toArray) := hf.mono (fun k hk => ⟨n, _, hl, hk⟩)
    have hxl := length_splice' xs off ys hle
    have hsl := length_splice' cur.toList (off * sz) news hmul
    refine ⟨cur, hh, by simpa using hmul, OpOK.put hm hl hf (.row hb (cells := (splice cur.toList (off * sz) news).take (xs.length * sz)) ⟨?_, .inr ⟨g, c, _, by rw [hxl], hg0, setRow_heap w g cur _ e _ hh, by rw [hxl]; exact hnc, hcm, by rw [List.size_toArray, hsl, Array.length_toList (xs := cur), hcs], by rw [hxl]⟩⟩ (fun j x hx => ?_))⟩
    · rw [List.length_take, hsl, Array.length_toList (xs := cur), hcs, hxl]; omega
    · rw [get_splice _ _ _ hle] at hx
      have conv : ∀ (q : Nat), q < xs.length * sz → ((splice cur.toList (off * sz) news).take (xs.length * sz))[q]? = if off * sz ≤ q ∧ q < off * sz + news.length then news[q - off * sz]? else cells[q]? := by
        intro q hq
        rw [List.getElem?_take, if_pos hq, get_splice _ _ _ hmul, ← htake, List.getElem?_take, if_pos hq]
      split at hx
      · rename_i hc
        obtain ⟨w1, w2⟩ := hnr _ _ hx
        refine ⟨w1, fun t y hy => ?_⟩
        obtain ⟨c, q1, q2, q3⟩ := w2 t y hy
        refine ⟨c, ?_, q2, q3.mono (hm.okfr hfr) (fun _ h => h)⟩
        have ht : t < sz := by have := (List.getElem?_eq_some_iff.1 hy).1; omega
        have h1 := mul_in (show j - off < ys.length by omega) ht
        have h2 : j * sz = (j - off) * sz + off * sz := by rw [← Nat.add_mul]; congr 1; omega
        rw [conv _ (mul_in (by omega) ht), if_pos (by omega), ← q1]
        congr 1
        omega
      · rename_i hc
        obtain ⟨w1, w2⟩ := hr _ _ hx
        have hj := (List.getElem?_eq_some_iff.1 hx).1
        refine ⟨w1, fun t y hy => ?_⟩
        obtain ⟨c, q1, q2, q3⟩ := w2 t y hy
        refine ⟨c, ?_, q2, q3.mono (hm.okfr hfr) (fun _ h => h)⟩
        have ht : t < sz := by have := (List.getElem?_eq_some_iff.1 hy).1; omega
        rw [conv _ (mul_in hj ht), if_neg ?_]
        · exact q1
        · rintro ⟨e1, e2⟩
          rw [hnl, ← Nat.add_mul] at e2
          have h4 : off ≤ j := by
            rcases Nat.lt_or_ge j off with h5 | h5
            · have : (j + 1) * sz ≤ off * sz := Nat.mul_le_mul_right _ h5
              rw [Nat.add_mul] at this
              omega
            · exact h5
          have h6 : j < off + ys.length := by
            rcases Nat.lt_or_ge j (off + ys.length) with h5 | h5
            · exact h5
            · have : (off + ys.length) * sz ≤ j * sz := Nat.mul_le_mul_right _ h5
              omega
          exact hc ⟨h4, h6⟩

theorem RowRep.take {sz k : Nat} {ys : List (List AV)} {news : List Value} (h : RowRep w ok sz ys news) : RowRep w ok sz (ys.take k) (news.take (k * sz)) := by
  intro j x hx
  rw [List.getElem?_take] at hx
  split at hx
  · rename_i hj
    obtain ⟨w1, w2⟩ := h j x hx
    refine ⟨w1, fun t y hy => ?_⟩
    obtain ⟨c, q1, q2, q3⟩ := w2 t y hy
    refine ⟨c, ?_, q2, q3⟩
    have ht : t < sz := by have := (List.getElem?_eq_some_iff.1 hy).1; omega
    rw [List.getElem?_take, if_pos (mul_in hj ht)]
    exact q1
  · simp at hx

theorem run_first {sz k c : Nat} {A : Option Addr} {ys : List (List AV)} {news : List Value} (hnl : news.length = ys.length * sz) (hA : 0 < ys.length → ∃ ad, A = some ad ∧ ∀ (j : Nat) (u : Value), news[j]? = some u → w.cell? (ad.add j) = some u)
    (hk : k ≤ ys.length) : (Builtin.firstCells sz k (.slice A ys.length c)).run P w = .ok (news.take (k * sz)).toArray w := by
  by_cases h0 : k = 0
  · subst h0
    cases A <;> simp [Builtin.firstCells, loadCells, loadCellsFrom]
  · obtain ⟨ad, rfl, hc⟩ := hA (by omega)
    refine run_firstCells_some (P := P) w sz k ad ys.length c (news.take (k * sz)) ?_ (fun j v hv => ?_)
    · rw [List.length_take, hnl]
      exact Nat.min_eq_left (Nat.mul_le_mul_right _ hk)
    · rw [List.getElem?_take] at hv
      split at hv
      · exact hc j v hv
      · simp at hv

theorem elems_one {x : AV} {xv : Value} {e : Nat} {ys : List (List AV)} (hx : ARep w β ok x xv) (hm : Mem w β ok σ) (hF : ∀ n c, F n = some c → look n σ = some c) (he : elemsOf F x = some (e, ys)) : ∃ sz, ∀ y ∈ ys, y.length = sz := by
  have blk : ∀ (m e0 sz0 : Nat) (xs : List (List AV)), F m = some (.row e0 sz0 xs) → ∀ y ∈ xs, y.length = sz0 := by
    intro m e0 sz0 xs hFm y hy
    cases hm.blks m _ (hF m _ hFm) with
    | @row _ _ _ v0 cells hb0 ho hr =>
      obtain ⟨j, hj⟩ := List.mem_iff_getElem?.1 hy
      exact (hr j y hj).1
  unfold elemsOf at he
  split at he
  · simp only [Option.some.injEq, Prod.mk.injEq] at he
    obtain ⟨_, rfl⟩ := he
    obtain ⟨A, c, h, _, hp⟩ := rep_sl hx
    cases hp with
    | sl sz g hc hnil hw had h1 hr =>
      refine ⟨sz, fun y hy => ?_⟩
      obtain ⟨j, hj⟩ := List.mem_iff_getElem?.1 hy
      exact hw j y hj
  · simp only [Option.some.injEq, Prod.mk.injEq] at he
    obtain ⟨_, rfl⟩ := he
    exact ⟨0, by simp⟩
  · simp only [Option.some.injEq, Prod.mk.injEq] at he
    obtain ⟨_, rfl⟩ := he
    exact ⟨0, by simp⟩
  · rename_i m
    split at he
    · rename_i e0 sz0 xs hFm
      simp only [Option.some.injEq, Prod.mk.injEq] at he
      obtain ⟨_, rfl⟩ := he
      exact ⟨sz0, blk m e0 sz0 xs hFm⟩
    · simp at he
  · rename_i m szr off len
    split at he
    · rename_i e0 sz0 xs hFm
      cases hbb : Nat.beq szr sz0 with
      | false => rw [hbb] at he; simp at he
      | true =>
        rw [hbb] at he
        simp only [cond_true, Option.some.injEq, Prod.mk.injEq] at he
        obtain ⟨_, hys⟩ := he
        exact ⟨sz0, fun y hy => blk m e0 sz0 xs hFm y (by rw [← hys] at hy; exact List.mem_of_mem_drop (List.mem_of_mem_take hy))⟩
    · simp at he
  · simp at he

theorem elems_form {x : AV} {xv : Value} {e : Nat} {ys : List (List AV)} (hx : ARep w β ok x xv) (hm : Mem w β ok σ) (hF : ∀ n c, F n = some c → look n σ = some c) (he : elemsOf F x = some (e, ys)) : ∃ A c, xv = .slice A ys.length c := by
  unfold elemsOf at he
  split at he
  · simp only [Option.some.injEq, Prod.mk.injEq] at he
    obtain ⟨_, rfl⟩ := he
    obtain ⟨A, c, h, _⟩ := rep_sl hx
    exact ⟨A, c, h⟩
  · simp only [Option.some.injEq, Prod.mk.injEq] at he
    obtain ⟨_, rfl⟩ := he
    exact ⟨none, 0, rep_nil hx⟩
  · simp only [Option.some.injEq, Prod.mk.injEq] at he
    obtain ⟨_, rfl⟩ := he
    obtain ⟨A, c, h⟩ := rep_sle hx
    exact ⟨some A, c, h⟩
  · rename_i m
    split at he
    · rename_i e0 sz0 xs hFm
      simp only [Option.some.injEq, Prod.mk.injEq] at he
      obtain ⟨_, rfl⟩ := he
      cases hm.blks m _ (hF m _ hFm) with
      | @row _ _ _ v0 cells hb0 ho hr =>
        cases hx with
        | p hp => cases hp
        | @own _ A l c hp =>
          rw [hp] at hb0
          simp only [Option.some.injEq] at hb0
          subst hb0
          exact ⟨A, c, by rw [(own_len ho).1]⟩
    · simp at he
  · rename_i m szr off len
    split at he
    · rename_i e0 sz0 xs hFm
      cases hbb : Nat.beq szr sz0 with
      | false => rw [hbb] at he; simp at he
      | true =>
        rw [hbb] at he
        simp only [cond_true, Option.some.injEq, Prod.mk.injEq] at he
        obtain ⟨_, hys⟩ := he
        cases hm.blks m _ (hF m _ hFm) with
        | @row _ _ _ v0 cells hb0 ho hr =>
          cases hx with
          | p hp => cases hp
          | @row0 _ _ _ A0 => exact ⟨A0, 0, by rw [← hys]; simp⟩
          | @row _ _ _ _ g l c c' A hp hc hll hin ha =>
            rw [hp] at hb0
            simp only [Option.some.injEq] at hb0
            subst hb0
            have hl := own_len ho
            have : ys.length = len := by rw [← hys]; simp; omega
            exact ⟨A, c', by rw [this]⟩
    · simp at he
  · simp at he

/-- The first m elements alone need be of one size. -/
theorem elems_first {x : AV} {e : Nat} {L c : Nat} {A : Option Addr} {ys : List (List AV)} (hx : ARep w β ok x (.slice A L c)) (hm : Mem w β ok σ) (hF : ∀ n c, F n = some c → look n σ = some c) (he : elemsOf F x = some (e, ys)) (m : Nat) {sz : Nat} (hsz : ∀ y ∈ ys.take m, y.length = sz) :
    ∃ news : List Value, news.length = (ys.take m).length * sz ∧ (0 < (ys.take m).length → ∃ ad, A = some ad ∧ ∀ (j : Nat) (u : Value), news[j]? = some u → w.cell? (ad.add j) = some u) ∧ (∀ u ∈ news, u.oneCell' = true) ∧ RowRep w ok sz (ys.take m) news := by
  by_cases h0 : (ys.take m).length = 0
  · have h1 : ys.take m = [] := List.eq_nil_of_length_eq_zero h0
    rw [h1]
    exact ⟨[], by simp, by simp, by simp, fun j x hx => by simp at hx⟩
  · -- all elements of a slice's value are of one size
    have hall : ∀ y ∈ ys, y.length = sz := by
      obtain ⟨sz', hs'⟩ := elems_one hx hm hF he
      have hpos : 0 < m ∧ 0 < ys.length := by rw [List.length_take] at h0; omega
      have hy0 : ys[0]? = some (ys[0]'hpos.2) := List.getElem?_eq_getElem _
      have hm0 : (ys.take m)[0]? = some (ys[0]'hpos.2) := by rw [List.getElem?_take, if_pos hpos.1]; exact hy0
      have e1 := hsz _ (List.mem_iff_getElem?.2 ⟨0, hm0⟩)
      have e2 := hs' _ (List.mem_iff_getElem?.2 ⟨0, hy0⟩)
      intro y hy
      rw [hs' y hy, ← e2, e1]
    obtain ⟨A', c', news, h1, h2, h3, h4, h5⟩ := src_rep hx hm hF he hall
    simp only [Value.slice.injEq] at h1
    obtain ⟨rfl, rfl, rfl⟩ := h1
    refine ⟨news.take (m * sz), ?_, fun h => ?_, fun u hu => h4 u (List.mem_of_mem_take hu), h5.take⟩
    · rw [List.length_take, List.length_take, h2, Nat.mul_min_mul_right]
    · obtain ⟨ad, q1, q2⟩ := h3 (by rw [List.length_take] at h; omega)
      refine ⟨ad, q1, fun j u hu => ?_⟩
      rw [List.getElem?_take] at hu
      split at hu
      · exact q2 j u hu
      · simp at hu

/-- The first places of a slice, as they lie in memory. -/
theorem firstK_src {x : AV} {xv : Value} {m : Nat} {K : Nat → List (List AV) → Prop} (h : firstK F x m K) (hx : ARep w β ok x xv) (hm : Mem w β ok σ) (hF : ∀ n c, F n = some c → look n σ = some c) :
    ∃ L ys A c, K L ys ∧ xv = .slice A L c ∧ ys.length = min L m ∧ ∀ sz, (∀ y ∈ ys, y.length = sz) → ∃ news : List Value, news.length = ys.length * sz ∧ (0 < ys.length → ∃ ad, A = some ad ∧ ∀ (j : Nat) (u : Value), news[j]? = some u → w.cell? (ad.add j) = some u) ∧
      (∀ u ∈ news, u.oneCell' = true) ∧ RowRep w ok sz ys news := by
  unfold firstK at h
  split at h
  · rename_i n sz off len cap
    split at h
    · rename_i e sz' xs hFm
      obtain ⟨hb, hu, hK⟩ := bif_elim h
      have hb' := beq_nat hb
      subst hb'
      obtain ⟨A, g, l, c, rfl, hbt, h1, h2, h3⟩ := rep_fv hx
      obtain ⟨rfl, hmx, cur, hh, hcs, hr⟩ := blk_full (hm.blks n _ (hF n _ hFm)) hbt
      have hle : off + min len m ≤ xs.length := by omega
      have hlen : ((xs.drop off).take (min len m)).length = min len m := by simp; omega
      refine ⟨_, _, A, cap, hK, rfl, hlen, fun sz' hsz' => ?_⟩
      by_cases h0 : min len m = 0
      · rw [h0] at hsz' ⊢
        exact ⟨[], by simp, by simp, by simp, fun j x hx => by simp at hx⟩
      · have hsz : sz = sz' := by
          have hx0 : ((xs.drop off).take (min len m))[0]? = some xs[off] := by
            rw [List.getElem?_take, if_pos (by omega), List.getElem?_drop]
            exact List.getElem?_eq_getElem (by omega)
          rw [← hsz' _ (List.mem_iff_getElem?.2 ⟨0, hx0⟩)]
          exact ((hr off _ (List.getElem?_eq_getElem (by omega))).1).symm
        subst hsz
        obtain ⟨p1, p2, p3, p4⟩ := full_part hcs hr hle hu
        refine ⟨_, by rw [hlen]; exact p1, fun _ => ⟨_, h3 (by omega), fun j u hu => ?_⟩, p3, p4⟩
        rw [Addr.add_lit]
        have := p2 j u hu
        simp [World.cell?, hh, this]
    · exact h.elim
  · split at h
    · rename_i s ys he
      have hsrc := fun sz hsz => src_rep (sz := sz) hx hm hF he hsz
      have hform : ∃ A c, xv = .slice A ys.length c := by
        by_cases hu : ∃ sz, ∀ y ∈ ys, y.length = sz
        · obtain ⟨sz, hsz⟩ := hu
          obtain ⟨A, c, news, h1, _⟩ := hsrc sz hsz
          exact ⟨A, c, h1⟩
        · exact elems_form hx hm hF he
      obtain ⟨A, c, rfl⟩ := hform
      refine ⟨_, _, A, c, h, rfl, by simp [Nat.min_comm], fun sz hsz => ?_⟩
      obtain ⟨news, h2, h3, h4, h5⟩ := elems_first hx hm hF he m hsz
      exact ⟨news, h2, h3, h4, h5⟩
    · exact h.elim

/-- A copy onto a place of a block. -/
theorem run_copy {dT sT ty e dLen dCap sz c off g T L : Nat} {A D : Option Addr} {ys : List (List AV)} {news : List Value} {cur : Array Value} (hu : P.underlying dT = some (.slice e)) (hsz : sizeT P e = some sz)
    (hyl : ys.length = min L dLen) (hnl : news.length = ys.length * sz) (hA : 0 < ys.length → ∃ ad, A = some ad ∧ ∀ (j : Nat) (u : Value), news[j]? = some u → w.cell? (ad.add j) = some u) (h1 : ∀ u ∈ news, u.oneCell' = true)
    (hD : 0 < dLen → D = some ⟨g, off * sz, none⟩) (hh : w.heap[g]? = some (.cells cur T (0, 0))) (hfit : off * sz + news.length ≤ cur.size) :
    (Builtin.copy_ #[dT, sT] ty #[.slice D dLen dCap, .slice A L c]).run P w = .ok (.int .i64 ((min L dLen : Nat) : Int)) (w.setRow g (splice cur.toList (off * sz) news).toArray) := by
  have hi : ∃ i, P.info? e = some i ∧ i.size = sz := by
    unfold sizeT at hsz
    obtain ⟨i, h1, h2⟩ := Option.map_eq_some_iff.1 hsz
    exact ⟨i, h1, h2⟩
  obtain ⟨i, hi, hisz⟩ := hi
  subst hisz
  have hf : (Builtin.firstCells i.size ys.length (.slice A L c)).run P w = .ok news.toArray w := by
    by_cases h0 : ys.length = 0
    · have : news = [] := List.eq_nil_of_length_eq_zero (by rw [hnl, h0]; simp)
      subst this
      rw [h0]
      cases A <;> simp [Builtin.firstCells, loadCells, loadCellsFrom]
    · obtain ⟨ad, rfl, hc⟩ := hA (by omega)
      exact run_firstCells_some (P := P) w i.size ys.length ad L c news hnl hc
  have hmin : Nat.min L dLen = ys.length := hyl.symm
  have hmin2 : min L dLen = ys.length := hyl.symm
  by_cases h0 : ys.length = 0
  · have hnil : news = [] := List.eq_nil_of_length_eq_zero (by rw [hnl, h0]; simp)
    subst hnil
    have e1 : splice cur.toList (off * i.size) [] = cur.toList := by simp [splice]
    rw [e1, Array.toArray_toList, setRow_self w g cur T (0, 0) hh]
    rw [hmin2]
    cases D <;> simp [Builtin.copy_, run_underlying hu, Builtin.lenOf, Go.sizeOf, typeInfo, hi, hmin, hf, storeCells, goInt]
  · rw [hD (by omega)]
    have hst := run_storeCells_at P g (off * i.size) T news 0 cur w hh (by simpa using hfit) h1
    simp only [Nat.add_zero] at hst
    rw [hmin2]
    simp [Builtin.copy_, run_underlying hu, Builtin.lenOf, Go.sizeOf, typeInfo, hi, hmin, hf, hst, splice, goInt]

theorem run_clear {t ty e len cap sz off g T : Nat} {D : Option Addr} {i : TypeInfo} {z : Value} {cur : Array Value} (hu : P.underlying t = some (.slice e)) (hi : P.info? e = some i) (hz : i.zero = some z) (hzs : z.cells.size = sz) (h1 : ∀ u ∈ z.cells.toList, u.oneCell' = true)
    (hD : 0 < len → D = some ⟨g, off * sz, none⟩) (hh : w.heap[g]? = some (.cells cur T (0, 0))) (hfit : off * sz + len * sz ≤ cur.size) :
    ∃ news : List Value, (Builtin.clear_ #[t] ty #[.slice D len cap]).run P w = .ok (.tuple #[]) (w.setRow g (splice cur.toList (off * sz) news).toArray) ∧ news = (Builtin.zeroCells z.cells len).toList := by
  refine ⟨_, ?_, rfl⟩
  have hone : ∀ u ∈ (Builtin.zeroCells z.cells len).toList, u.oneCell' = true := by
    intro u hu
    obtain ⟨j, hj⟩ := List.mem_iff_getElem?.1 hu
    simp only [Builtin.zeroCells, Array.getElem?_toList, Array.getElem?_map] at hj
    obtain ⟨q, hq, e⟩ := Option.map_eq_some_iff.1 hj
    have hq' := (Array.getElem?_eq_some_iff.1 hq).1
    simp only [Array.size_range] at hq'
    have hp : 0 < z.cells.size := by
      rcases Nat.eq_zero_or_pos z.cells.size with h | h
      · rw [h] at hq'; omega
      · exact h
    rw [← e, getElem!_pos z.cells _ (Nat.mod_lt _ hp)]
    exact h1 _ (by simp)
  have hlen : (Builtin.zeroCells z.cells len).toList.length = len * sz := by simp [size_zeroCells, hzs]
  by_cases h0 : len = 0
  · subst h0
    have hnil : (Builtin.zeroCells z.cells 0).toList = [] := List.eq_nil_of_length_eq_zero (by rw [hlen]; omega)
    rw [hnil]
    have e1 : splice cur.toList (off * sz) [] = cur.toList := by simp [splice]
    rw [e1, Array.toArray_toList, setRow_self w g cur T (0, 0) hh]
    cases D <;> simp [Builtin.clear_, run_underlying hu]
  · rw [hD (by omega)]
    have hst := run_storeCells_at P g (off * sz) T (Builtin.zeroCells z.cells len).toList 0 cur w hh (by rw [hlen]; simpa using hfit) hone
    simp only [Nat.add_zero] at hst
    obtain ⟨m, rfl⟩ := Nat.exists_eq_succ_of_ne_zero h0
    simp [Builtin.clear_, run_underlying hu, zeroValue, typeInfo, hi, hz, hst, splice]

theorem replicate_row {z : List AV} {zc : Array Value} {sz n : Nat} (hl : z.length = zc.size) (hsz : zc.size = sz) (hr : ∀ (j : Nat) (y : AV) (x : Value), z[j]? = some y → zc[j]? = some x → PRep w ok y x ∧ x.oneCell' = true) :
    RowRep w ok sz (List.replicate n z) (Builtin.zeroCells zc n).toList := by
  intro j x hx
  have hj : j < n := by have := (List.getElem?_eq_some_iff.1 hx).1; simpa using this
  have hxz : x = z := by
    rw [List.getElem?_replicate, if_pos hj] at hx
    exact (Option.some.inj hx).symm
  subst hxz
  refine ⟨by omega, fun t y hy => ?_⟩
  have ht : t < sz := by have := (List.getElem?_eq_some_iff.1 hy).1; omega
  have hp : 0 < sz := by omega
  have htz : t < zc.size := by omega
  refine ⟨zc[t], ?_, (hr t y _ hy (by simp [htz])).2, (hr t y _ hy (by simp [htz])).1⟩
  have hin : j * sz + t < n * sz := mul_in hj ht
  simp only [Builtin.zeroCells, Array.getElem?_toList, Array.getElem?_map]
  rw [show (Array.range (n * zc.size))[j * sz + t]? = some (j * sz + t) by simp [hsz, hin]]
  simp only [Option.map_some, hsz]
  rw [Nat.mul_comm, Nat.mul_add_mod, Nat.mod_eq_of_lt ht, getElem!_pos zc _ htz]

end
end Go.AM
