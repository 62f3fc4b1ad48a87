/- A calculus of conditions: slices of the call's own. -/
import Derived.Test.YtjponbpdlioocaaVc
import Derived.Lib.ConvBytes
import Derived.Laws.IdiomStrings
import Derived.Laws.BytesArg
import Derived.Great.BuildSlice
set_option linter.all false
namespace Vc
open Go Go.RowKit Wf
/-- The cells of a string's bytes, and back. -/
def u8S (b : UInt8) : SV := .int .u8 b.toNat
def isU8 : SV → Bool
  | .int .u8 n => decide (0 ≤ n ∧ n < 256)
  | _ => false
def unU8 : SV → UInt8
  | .int _ n => n.toNat.toUInt8
  | _ => 0
theorem unU8_map (l : Bytes) : (l.map u8S).map unU8 = l := by
  rw [List.map_map]
  conv => rhs; rw [← List.map_id l]
  apply List.map_congr_left
  intro b _
  simp [u8S, unU8]
theorem isU8_map (l : Bytes) : (l.map u8S).all isU8 = true := by
  rw [List.all_map, List.all_eq_true]
  intro b _
  have := b.toNat_lt
  simp [u8S, isU8]
  omega
theorem conc_unU8 (β : Nat → Bt) {x : SV} (h : isU8 x = true) : conc β x = .int .u8 (unU8 x).toNat := by
  unfold isU8 at h
  split at h
  · rename_i n
    simp only [decide_eq_true_eq] at h
    simp only [conc, unU8]
    congr 1
    simp
    omega
  · cases h
/-- What is appended: how many elements, the cells. -/
def srcS (bs : List Res) (s : Nat) : SV → Option (Nat × List SV)
  | .nils => some (0, [])
  | .str l => if s = 1 then some (l.length, l.map u8S) else none
  | .o j m => match bs[j]? with
    | some (.own c _ s' n _) => if s' = s ∧ n = m then some (m, c) else none
    | _ => none
  | _ => none
/-- The slice that is appended to: how many elements, the cells, the state without it. -/
def dstS (bs : List Res) (e s : Nat) : SV → Option (Nat × List SV × List Res)
  | .nils => some (0, [], bs)
  | .o j m => match bs[j]? with
    | some (.own c e' s' n true) => if e' = e ∧ s' = s ∧ n = m then some (m, c, bs.set j .gone) else none
    | _ => none
  | _ => none
def XP : Kd → Bool
  | .str => true
  | .slice _ => true
  | _ => false
def Xm (V : Cx) (dst : Option Tmp) (args : List Operand) (ts : List TypeId) (σ : St) : Option (Prop × St) := match args with
  | [s, x] => match ts with
    | [t, u] => match kd V.Γ t with
      | some (.slice e) => match kd V.Γ u with
        | some ku => match V.Γ e with
          | some ti => match ev σ.t s with
            | some s => match ev σ.t x with
              | some x => match dstS σ.b e ti.size s with
                | some (n, c, bs) => match srcS σ.b ti.size x with
                  | some (m, xs) => some (XP ku = true ∧ 0 < ti.size ∧ xs.all one = true ∧ n + m ≤ maxLen ∧ (n + m) * ti.bytes ≤ 140737488355328, ⟨put dst (.o σ.b.length (n + m)) σ.t, bs ++ [.own (c ++ xs) e ti.size (n + m) true]⟩)
                  | none => none
                | none => none
              | none => none
            | none => none
          | none => none
        | none => none
      | _ => none
    | _ => none
  | _ => none
def repS (z : List SV) : Nat → List SV
  | 0 => []
  | n + 1 => z ++ repS z n
def Yn (V : Cx) (dst : Option Tmp) (t : TypeId) (l c : Operand) (σ : St) : Option (Prop × St) := match kd V.Γ t with
  | some (.slice e) => match V.Γ e with
    | some ti => match ev σ.t l with
      | some (.int _ l) => match ev σ.t c with
        | some (.int _ c) => some (0 ≤ l ∧ l ≤ c ∧ (ti.bytes : Int) * c ≤ 281474976710656 ∧ c ≤ 9223372036854775807 ∧ 0 < ti.size, ⟨put dst (.o σ.b.length l.toNat) σ.t, σ.b ++ [.own (repS ti.zero l.toNat) e ti.size l.toNat true]⟩)
        | _ => none
      | _ => none
    | none => none
  | _ => none
/-- Parts of a slice, laid out one behind the other. -/
def Yi (s : Nat) : Nat → List (Nat × SV) → Option (List SV)
  | _, [] => some []
  | k, (i, x) :: r => if i = k ∧ isV x = false ∧ (cells x).length = s then match Yi s (k + 1) r with
      | some c => some (cells x ++ c)
      | none => none
    else none
def Xa (V : Cx) (dst : Option Tmp) (t : TypeId) (n : Nat) (ps : List (Nat × Operand)) (σ : St) : Option (Prop × St) := match kd V.Γ t with
  | some (.slice e) => match V.Γ e with
    | some ti => match Xl σ.t ps with
      | some ps => match Yi ti.size 0 ps with
        | some c => some (ps.length = n ∧ n * ti.size ≤ 16777216 ∧ 0 < ti.size, ⟨put dst (.o σ.b.length n) σ.t, σ.b ++ [.own c e ti.size n true]⟩)
        | none => none
      | none => none
    | none => none
  | _ => none
def Ym (bs : List Res) (k : Int) : SV → Option (Prop × SV)
  | .o i n => match bs[i]? with
    | some (.own _ _ s n' _) => some (n' = n ∧ 0 < s ∧ 0 ≤ k ∧ k < n, .p i (k.toNat * s))
    | _ => none
  | _ => none
def Xc (V : Cx) (dst : Option Tmp) (t : TypeId) (x i : Operand) (σ : St) : Option (Prop × St) := match kd V.Γ t with
  | some (.slice e) => match sz V.Γ e with
    | some s => match ev σ.t x with
      | some x => match ev σ.t i with
        | some (.int _ k) => match Ym σ.b k x with
          | some (c, y) => some (c ∧ sizeIs σ.b x s, ⟨put dst y σ.t, σ.b⟩)
          | none => none
        | _ => none
      | none => none
    | none => none
  | _ => none
where sizeIs (bs : List Res) (x : SV) (s : Nat) : Prop := match x with
  | .o i _ => match bs[i]? with
    | some (.own _ _ s' _ _) => s' = s
    | _ => False
  | _ => False
/-- x[lo:hi] of a slice. With no lower bound the new slice takes the place of the old one; else both may only be read. -/
def reS (bs : List Res) (lo hi : Option SV) : SV → Option (Prop × Nat × List Res)
  | .o i n => match bs[i]? with
    | some (.own c e s n' m) => match bnds n lo hi with
      | some (k, f, u) => match lo with
        | none => some (k ∧ n' = n ∧ 0 < s, u, bs.set i .gone ++ [.own (c.take (u * s)) e s u m])
        | some _ => some (k ∧ n' = n ∧ 0 < s, u - f, bs.set i (.own c e s n' false) ++ [.own ((c.take (u * s)).drop (f * s)) e s (u - f) false])
      | none => none
    | _ => none
  | _ => none
def Xj (V : Cx) (dst : Option Tmp) (t : TypeId) (x : Operand) (lo hi : Option Operand) (σ : St) : Option (Prop × St) := match kd V.Γ t with
  | some (.slice e) => match sz V.Γ e with
    | some s => match ev σ.t x with
      | some x => match optE σ.t lo with
        | some lo => match optE σ.t hi with
          | some hi => match reS σ.b lo hi x with
            | some (c, n, bs) => some (c ∧ Xc.sizeIs σ.b x s, ⟨put dst (.o σ.b.length n) σ.t, bs⟩)
            | none => none
          | none => none
        | none => none
      | none => none
    | none => none
  | _ => none
def Yb (V : Cx) (dst : Option Tmp) (src d : TypeId) (x : Operand) (σ : St) : Option (Prop × St) := match kd V.Γ src with
  | some .str => match kd V.Γ d with
    | some (.slice e) => match kd V.Γ e with
      | some (.int .u8) => match ev σ.t x with
        | some (.str l) => some (l.length ≤ maxLen, ⟨put dst (.o σ.b.length l.length) σ.t, σ.b ++ [.own (l.map u8S) e 1 l.length true]⟩)
        | _ => none
      | _ => none
    | _ => none
  | some (.slice e) => match kd V.Γ d with
    | some .str => match kd V.Γ e with
      | some (.int .u8) => match ev σ.t x with
        | some .nils => some (True, ⟨put dst (.str []) σ.t, σ.b⟩)
        | some (.o i n) => match σ.b[i]? with
          | some (.own c _ s n' _) => some (n' = n ∧ s = 1 ∧ c.all isU8 = true, ⟨put dst (.str (c.map unU8)) σ.t, σ.b⟩)
          | _ => none
        | _ => none
      | _ => none
    | _ => none
  | _ => none
def mmS (min : Bool) : SV → SV → Option SV
  | .int k x, .int _ y => some (.int k (if min then (if y < x then y else x) else (if x < y then y else x)))
  | _, _ => none
def Xq (min : Bool) (dst : Option Tmp) (args : List Operand) (σ : St) : Option (Prop × St) := match args with
  | [x, y] => match ev σ.t x with
    | some x => match ev σ.t y with
      | some y => (mmS min x y).map fun z => (True, ⟨put dst z σ.t, σ.b⟩)
      | none => none
    | none => none
  | _ => none
def Yl (V : Cx) (dst : Option Tmp) : Op → St → Option (Prop × St)
  | .call ⟨.builtin .append, args, ts⟩, σ => Xm V dst args.toList ts.toList σ
  | .call ⟨.builtin .min, args, _⟩, σ => Xq true dst args.toList σ
  | .call ⟨.builtin .max, args, _⟩, σ => Xq false dst args.toList σ
  | .makeSlice t l c, σ => Yn V dst t l c σ
  | .buildSlice t n ps, σ => Xa V dst t n ps.toList σ
  | .indexAddr t x i, σ => Xc V dst t x i σ
  | .slice t x lo hi none, σ => Xj V dst t x lo hi σ
  | .convert s d x, σ => Yb V dst s d x σ
  | _, _ => none
section
variable {V : Cx} {F : Fx V} {β : Nat → Bt} {fp : Nat → Nat → Prop} {bs : List Res} {w : World} {t : List (Nat × SV)} {a : Act}
theorem Wd.own (h : Wd F β fp bs w) {i n s e : Nat} {c : List SV} {m : Bool} (hi : bs[i]? = some (.own c e s n m)) {β' : Nat → Bt} (hβ : Agr bs.length β β') : Holds β' (β' i) (fp i) w (.own c e s n m) := (h.bx β' hβ).holds i _ hi
theorem own_len (h : Wd F β fp bs w) {i n s e : Nat} {c : List SV} {m : Bool} (hi : bs[i]? = some (.own c e s n m)) : c.length = n * s := by
  rcases h.own hi (Agr.refl _ β) with ⟨-, rfl, rfl, -⟩ | ⟨-, -, -, h4, -⟩
  · simp
  · exact h4
/-- What is read out of a source. -/
theorem src_ok (h : Wd F β fp bs w) {s : Nat} (hs : 0 < s) {x : SV} {m : Nat} {xs : List SV} (hx : srcS bs s x = some (m, xs)) {β' : Nat → Bt} (hβ : Agr bs.length β β') (w' : World) (hw' : w'.heap = w.heap) (P : Program) :
    (Builtin.lenOf (conc β' x)).run P w' = Result.ok m w' ∧ (Builtin.firstCells s m (conc β' x)).run P w' = Result.ok (xs.map (conc β')).toArray w' ∧ xs.length = m * s := by
  unfold srcS at hx
  split at hx
  · cases hx
    simp [conc, Builtin.lenOf, Builtin.firstCells]
  · rename_i l
    split at hx
    · rename_i hs1
      cases hx
      subst hs1
      refine ⟨by simp [conc, Builtin.lenOf]; rfl, ?_, by simp⟩
      simp only [conc, Builtin.firstCells, Sem.run_pure]
      congr 1
      apply Array.ext'
      have e : (⟨List.toArray l⟩ : ByteArray).extract 0 l.length = ⟨List.toArray l⟩ := by rw [ex_list]; simp
      rw [e]
      simp [u8S, conc, Function.comp_def]
    · cases hx
  · rename_i j m'
    split at hx
    · rename_i c e s' n mn hj
      split at hx
      · rename_i hc
        obtain ⟨rfl, rfl⟩ := hc
        cases hx
        have hl := own_len h hj
        have ho := h.own hj hβ
        refine ⟨?_, ?_, hl⟩
        · simp only [conc, oV]; split <;> simp [Builtin.lenOf]
        · simp only [conc, oV]
          rcases ho with ⟨h1, h2, h3, -⟩ | ⟨h1, -, -, -, h5, -⟩
          · rw [if_pos h1]; subst h3; simp [Builtin.firstCells]
          · rw [if_neg h1]
            refine run_firstCells_some (P := P) w' _ _ _ _ _ _ (by simpa using hl) (fun j v hv => ?_)
            rw [addr_plus]
            have := h5 j v hv
            rw [← this]
            exact World.cell?_of_block (w := w) (by rw [hw'])
      · cases hx
    · cases hx
  · cases hx
theorem run_app_room {P : Program} (w : World) (t u ty e : TypeId) (i : TypeInfo) (ht : P.underlying t = some (.slice e)) {d : TypeDesc} (hu : P.underlying u = some d) (hd : d = .string ∨ ∃ e', d = .slice e') (hi : P.info? e = some i)
    (g sLen sCap m : Nat) (x : Value) (news : List Value) (hlen : (Builtin.lenOf x).run P w = Result.ok m w) (hf : (Builtin.firstCells i.size m x).run P w = Result.ok news.toArray w) (hroom : sLen + m ≤ sCap) {w' : World}
    (hst : (storeCells ⟨g, sLen * i.size, none⟩ news).run P w = Result.ok () w') :
    (Builtin.append_ #[t, u] ty #[.slice (some ⟨g, 0, none⟩) sLen sCap, x]).run P w = Result.ok (.slice (some ⟨g, 0, none⟩) (sLen + m) sCap) w' := by
  rcases hd with rfl | ⟨e', rfl⟩ <;> simp [Builtin.append_, run_underlying ht, run_underlying hu, Go.sizeOf, typeInfo, hi, hlen, hroom, hf, addr_plus, hst]
theorem run_app_grow {P : Program} (w : World) (t u ty e : TypeId) (i : TypeInfo) (z : Value) (ht : P.underlying t = some (.slice e)) {d : TypeDesc} (hu : P.underlying u = some d) (hd : d = .string ∨ ∃ e', d = .slice e') (hi : P.info? e = some i) (hz : i.zero = some z)
    (b : Option Addr) (sLen sCap m : Nat) (x : Value) (olds news : List Value) (hlen : (Builtin.lenOf x).run P w = Result.ok m w) (hf : (Builtin.firstCells i.size m x).run P w.drew = Result.ok news.toArray w.drew)
    (ho : (Builtin.firstCells i.size sLen (.slice b sLen sCap)).run P w.drew = Result.ok olds.toArray w.drew)
    (hg : sCap < sLen + m) (h63 : sLen + m ≤ maxLen) (hbytes : (sLen + m) * i.bytes ≤ 140737488355328) :
    (Builtin.append_ #[t, u] ty #[.slice b sLen sCap, x]).run P w =
      Result.ok (.slice (some ⟨w.heap.size, 0, none⟩) (sLen + m) (grownCap w (sLen + m) sCap e)) (w.drew.alloc (.cells ((olds ++ news).toArray ++ Builtin.zeroCells z.cells (grownCap w (sLen + m) sCap e - (sLen + m))) e)) := by
  have hn : ¬ (sLen + m ≤ sCap) := by omega
  have h63' : ¬ (9223372036854775807 < ((sLen : Int) + (m : Int))) := by unfold maxLen at h63; omega
  have h48' : ¬ (281474976710656 < Builtin.nextslicecap (sLen + m) sCap * i.bytes) := by have := growslice_fits hg hbytes; omega
  rcases hd with rfl | ⟨e', rfl⟩ <;> simp [Builtin.append_, run_underlying ht, run_underlying hu, Go.sizeOf, typeInfo, zeroValue, hi, hz, hlen, hn, h63', h48', Question.forced, hf, ho, newRow, grownCap]
  all_goals
    congr 2
    apply Array.ext'
    simp
theorem holds_row {w : World} {g cap e s n : Nat} {c : List SV} {β' : Nat → Bt} {rest : List Value} {fz : Nat × Nat} (hh : w.heap[g]? = some (.cells (c.map (conc β') ++ rest).toArray e fz)) (hfz : c.length + rest.length ≤ fz.1 ∨ fz.2 ≤ fz.1) (hc : c.length = n * s) (hn : n ≤ cap) (hcap : cap ≤ maxLen) (hsz : c.length + rest.length = cap * s) :
    Holds β' ⟨g, 0, cap + 1⟩ (· = g) w (.own c e s n true) := by
  have hd : Head w g e (c.map (conc β')) rest fz := ⟨hh, by simp; omega⟩
  exact .inr ⟨by simp, hn, hcap, hc, hd.lies, fun _ => ⟨rfl, rest, fz, hd, hfz, hsz⟩, fun k => Iff.rfl⟩
theorem holds_nil {w : World} {e s : Nat} {β' : Nat → Bt} {m : Bool} : Holds β' ⟨0, 0, 0⟩ (fun _ => False) w (.own [] e s 0 m) := .inl ⟨rfl, rfl, rfl, by simp⟩
theorem dst_len {e s : Nat} {sv : SV} {n : Nat} {c : List SV} {bs2 : List Res} (h : dstS bs e s sv = some (n, c, bs2)) : bs2.length = bs.length := by
  unfold dstS at h
  split at h
  · cases h; rfl
  · split at h
    · split at h
      · cases h; simp
      · cases h
    · cases h
  · cases h
theorem heap_size_of {w : World} {b : Nat} {x : Obj} (h : w.heap[b]? = some x) : b < w.heap.size := (Array.getElem?_eq_some_iff.1 h).1
/-- Something new in the place of the slice that was appended to. -/
theorem dst_new (h : Wd F β fp bs w) {e s : Nat} {sv : SV} {n : Nat} {c : List SV} {bs2 : List Res} (hs : dstS bs e s sv = some (n, c, bs2)) {w' : World} (hb : Below w.heap.size w w') (r : Res) (b : Bt) (f : Nat → Prop)
    (hr : ∀ β', Agr (bs.length + 1) (upd β bs.length b) β' → Holds β' b f w' r) (hf : ∀ k, f k → w.heap.size ≤ k ∧ k < w'.heap.size) : ∃ fp₂, Wd F (upd β bs.length b) fp₂ (bs2 ++ [r]) w' := by
  unfold dstS at hs
  split at hs
  · cases hs; exact ⟨_, h.more hb r b f hr hf⟩
  · split at hs
    · rename_i hj
      split at hs
      · cases hs
        exact ⟨_, h.swap hj rfl (FrW.of_below hb) r b f hr (fun k hk => ⟨.inr (hf k hk).1, (hf k hk).2⟩)⟩
      · cases hs
    · cases hs
  · cases hs
theorem app_ok (h : Wd F β fp bs w) {t u e s : Nat} (ht : V.P.underlying t = some (.slice e)) {d : TypeDesc} (hu : V.P.underlying u = some d) (hd : d = .string ∨ ∃ e', d = .slice e') {ti : TI} (hti : V.Γ e = some ti) (hsz : ti.size = s) (hs0 : 0 < s)
    {sv xv : SV} {n m : Nat} {c xs : List SV} {bs2 : List Res} (hs : dstS bs e s sv = some (n, c, bs2)) (hx : srcS bs s xv = some (m, xs)) (hxv : ∀ β', Agr bs.length β β' → conc β xv = conc β' xv) (h1 : xs.all one = true) (h63 : n + m ≤ maxLen) (hby : (n + m) * ti.bytes ≤ 140737488355328) (ty : TypeId) :
    ∃ b fp₂ w', (Builtin.append_ #[t, u] ty #[conc β sv, conc β xv]).run V.P w = Result.ok (oV b (n + m)) w' ∧ Wd F (upd β bs.length b) fp₂ (bs2 ++ [.own (c ++ xs) e s (n + m) true]) w' := by
  obtain ⟨i, z, hi, hz, hisz, hiby, hzc⟩ := (V.gok e ti hti).info
  have hzl := (V.gok e ti hti).len
  have hiss : i.size = s := hisz.trans hsz
  obtain ⟨hl1, hf1, hxl⟩ := src_ok h hs0 hx (Agr.refl _ β) w rfl V.P
  obtain ⟨hl2, hf2, -⟩ := src_ok h hs0 hx (Agr.refl _ β) w.drew rfl V.P
  have hxa : ∀ β', Agr bs.length β β' → xs.map (conc β) = xs.map (conc β') := fun β' hβ => by
    have h2 := (src_ok h hs0 hx hβ w rfl V.P).2.1
    rw [← hxv β' hβ, hf1] at h2
    injection h2 with h2
    simpa using h2
  rw [← hiss] at hf1 hf2
  have hzs : z.cells.size = s := by rw [hzc]; simp [hzl, hsz]
  -- a new row
  have grow : ∀ (b : Option Addr) (cap : Nat) (hca : ∀ β', Agr bs.length β β' → c.map (conc β) = c.map (conc β')) (hcl : c.length = n * s), (Builtin.firstCells i.size n (.slice b n cap)).run V.P w.drew = Result.ok (c.map (conc β)).toArray w.drew → cap < n + m →
      ∃ b' fp₂ w', (Builtin.append_ #[t, u] ty #[.slice b n cap, conc β xv]).run V.P w = Result.ok (oV b' (n + m)) w' ∧ Wd F (upd β bs.length b') fp₂ (bs2 ++ [.own (c ++ xs) e s (n + m) true]) w' := fun b cap hca hcl ho hg => by
    have hrun := run_app_grow (P := V.P) w t u ty e i z ht hu hd hi hz b n cap m (conc β xv) (c.map (conc β)) (xs.map (conc β)) hl1 hf2 ho hg h63 (by rw [hiby]; exact hby)
    have hge := grownCap_ge w (n + m) cap e
    have hle := grownCap_le_maxLen w (n + m) cap e h63
    generalize grownCap w (n + m) cap e = cap' at hrun hge hle
    have hwd0 : ∃ fp₂, Wd F (upd β bs.length ⟨w.heap.size, 0, cap' + 1⟩) fp₂ (bs2 ++ [.own (c ++ xs) e s (n + m) true]) (w.drew.alloc (.cells ((c.map (conc β) ++ xs.map (conc β)).toArray ++ Builtin.zeroCells z.cells (cap' - (n + m))) e)) := by
      refine dst_new h hs (((Below.refl _ _).drew).alloc (Nat.le_refl _) _) (.own (c ++ xs) e s (n + m) true) ⟨w.heap.size, 0, cap' + 1⟩ (· = w.heap.size) (fun β' hβ => ?_) (fun k hk => ?_)
      · refine holds_row (rest := (Builtin.zeroCells z.cells (cap' - (n + m))).toList) (fz := (0, 0)) ?_ (.inr (Nat.le_refl _)) (by rw [List.length_append, hcl, hxl, Nat.add_mul]) hge hle ?_
        · have e1 := heap_new w.drew (.cells ((c.map (conc β) ++ xs.map (conc β)).toArray ++ Builtin.zeroCells z.cells (cap' - (n + m))) e)
          have e2 : w.drew.heap.size = w.heap.size := rfl
          rw [e2] at e1
          rw [e1, hca β' hβ.of_upd, hxa β' hβ.of_upd]
          congr 2
          apply Array.ext'
          simp
        · rw [List.length_append, hcl, hxl]
          simp only [Array.length_toList, size_zeroCells, hzs]
          rw [← Nat.add_mul, ← Nat.add_mul]
          congr 1
          omega
      · subst hk
        exact ⟨Nat.le_refl _, by rw [size_alloc]; exact Nat.lt_succ_self _⟩
    obtain ⟨fp₂, hwd⟩ := hwd0
    exact ⟨⟨w.heap.size, 0, cap' + 1⟩, fp₂, _, by rw [hrun]; simp [oV], hwd⟩
  -- nothing at all
  have none0 : c = [] → n = 0 → ∃ b' fp₂ w', (Builtin.append_ #[t, u] ty #[.slice none 0 0, conc β xv]).run V.P w = Result.ok (oV b' (n + m)) w' ∧ Wd F (upd β bs.length b') fp₂ (bs2 ++ [.own (c ++ xs) e s (n + m) true]) w' := fun hc0 hn0 => by
    subst hc0 hn0
    by_cases hm : m = 0
    · subst hm
      have hxs : xs = [] := List.eq_nil_of_length_eq_zero (by rw [hxl]; simp)
      subst hxs
      obtain ⟨fp₂, hwd⟩ := dst_new h hs (Below.refl _ w) (.own [] e s 0 true) ⟨0, 0, 0⟩ (fun _ => False) (fun β' _ => holds_nil) (fun k hk => hk.elim)
      refine ⟨⟨0, 0, 0⟩, fp₂, w, ?_, hwd⟩
      rcases hd with rfl | ⟨e', rfl⟩ <;> simp [Builtin.append_, run_underlying ht, run_underlying hu, Go.sizeOf, typeInfo, hi, hl1, hf1, oV]
    · exact grow none 0 (fun _ _ => rfl) (by simp) (by simp [Builtin.firstCells]) (by omega)
  have hs' := hs
  unfold dstS at hs'
  split at hs'
  · cases hs'
    simpa [conc] using none0 rfl rfl
  · rename_i j n0
    split at hs'
    · rename_i c0 e0 s0 n1 hj
      split at hs'
      · rename_i hcond
        obtain ⟨rfl, rfl, rfl⟩ := hcond
        cases hs'
        have ho := h.own hj (Agr.refl _ β)
        rcases ho with ⟨k1, k2, k3, -⟩ | ⟨k1, k2, k3, k4, k5, k6, k7⟩
        · have := none0 k3 k2
          simp only [conc, oV, if_pos k1]
          rw [k2] at this ⊢
          exact this
        · obtain ⟨k8, rest, fz, k9, k10, k11⟩ := k6 rfl
          have hjlt : j < bs.length := (List.getElem?_eq_some_iff.1 hj).1
          have hgj : getB bs j = some (c, e0, true) := by simp [getB, hj]
          simp only [conc, oV, if_neg k1]
          by_cases hroom : n + m ≤ (β j).cap - 1
          · have hcl : (c.map (conc β)).length = n * s0 := by simpa using k4
            have hmul : n * s0 + m * s0 ≤ ((β j).cap - 1) * s0 := by rw [← Nat.add_mul]; exact Nat.mul_le_mul_right _ hroom
            have hst := run_storeCells_fz (P := V.P) (β j).blk (n * s0) e0 fz (xs.map (conc β)) 0 _ w k9.1 (by simp; omega) (by simp; omega) (fun v hv => by
              simp only [List.mem_map] at hv
              obtain ⟨x, hx', rfl⟩ := hv
              exact one_oneCell (List.all_eq_true.1 h1 x hx') β)
            have e1 : (List.take (n * s0 + 0) (c.map (conc β) ++ rest) ++ xs.map (conc β) ++ List.drop (n * s0 + 0 + (xs.map (conc β)).length) (c.map (conc β) ++ rest)) = (c ++ xs).map (conc β) ++ rest.drop (m * s0) := by
              simp only [Nat.add_zero, List.map_append]
              rw [List.take_append_of_le_length (by omega), List.take_of_length_le (by omega), List.drop_append, List.drop_of_length_le (by simp; omega)]
              simp [hxl, k4]
            simp only [e1] at hst
            have hrun := run_app_room (P := V.P) w t u ty e0 i ht hu hd hi (β j).blk n ((β j).cap - 1) m (conc β xv) (xs.map (conc β)) hl1 hf1 hroom (by rw [hiss]; exact hst)
            have hnew := setRow_heap w (β j).blk _ ((c ++ xs).map (conc β) ++ rest.drop (m * s0)).toArray _ _ k9.1
            have hcb : (β j).cap - 1 + 1 = (β j).cap := by omega
            have hwd := h.swap hj rfl (w' := w.setRow (β j).blk ((c ++ xs).map (conc β) ++ rest.drop (m * s0)).toArray) ⟨rfl, rfl, rfl, by simp, fun k hk hn => setRow_other _ _ _ _ (fun ek => hn ((k7 k).2 ek))⟩ (.own (c ++ xs) e0 s0 (n + m) true) ⟨(β j).blk, 0, (β j).cap - 1 + 1⟩ (· = (β j).blk) (fun β' hβ => ?_) (fun k hk => ?_)
            · refine ⟨⟨(β j).blk, 0, (β j).cap - 1 + 1⟩, _, _, ?_, hwd⟩
              rw [k8, hrun]
              simp [oV]
            · refine holds_row (rest := rest.drop (m * s0)) (fz := fz) ?_ ?_ (by rw [List.length_append, k4, hxl, Nat.add_mul]) hroom k3 ?_
              · rw [hnew, List.map_append, h.agr hgj hβ.of_upd, hxa β' hβ.of_upd, ← List.map_append]
              · simp only [List.length_append, List.length_drop]
                rcases k10 with k10 | k10
                · left; omega
                · exact .inr k10
              · simp only [List.length_append, List.length_drop]
                omega
            · subst hk
              refine ⟨.inl ((k7 _).2 rfl), ?_⟩
              rw [setRow_size]
              exact heap_size_of k9.1
          · refine grow _ _ (fun β' hβ => h.agr hgj hβ) k4 ?_ (by omega)
            rw [hiss]
            refine run_firstCells_some (P := V.P) w.drew s0 n _ n _ (c.map (conc β)) (by simpa using k4) (fun q v hv => ?_)
            rw [addr_plus]
            exact k5 q v hv
      · cases hs'
    · cases hs'
  · cases hs'
/-- One thing becomes two at the same blocks. -/
theorem Wd.split (h : Wd F β fp bs w) {i : Nat} {r0 : Res} (hi : bs[i]? = some r0) (r1 r : Res) (b : Bt) (f1 f : Nat → Prop) (h1 : ∀ β', Agr bs.length β β' → Holds β' (β' i) f1 w r1) (hm1 : r1.mine = false) (hf1 : ∀ k, f1 k → fp i k)
    (hr : ∀ β', Agr (bs.length + 1) (upd β bs.length b) β' → Holds β' b f w r) (hf : ∀ k, f k → fp i k) (hm : r.mine = true → r0.mine = true ∧ ∀ k, ¬ f1 k) :
    Wd F (upd β bs.length b) (fun j k => if j = bs.length then f k else if j = i then f1 k else fp j k) (bs.set i r1 ++ [r]) w := by
  have hilt : i < bs.length := (List.getElem?_eq_some_iff.1 hi).1
  have old : ∀ {j : Nat} {r' : Res}, (bs.set i r1 ++ [r])[j]? = some r' → (j < bs.length ∧ j ≠ i ∧ bs[j]? = some r') ∨ (j = i ∧ r' = r1) ∨ (j = bs.length ∧ r' = r) := fun {j r'} hj => by
    rcases Nat.lt_or_ge j bs.length with hlt | hge
    · rw [List.getElem?_append_left (by simpa using hlt)] at hj
      by_cases hji : j = i
      · subst hji
        rw [List.getElem?_set_self hilt] at hj
        exact .inr (.inl ⟨rfl, by simpa using hj.symm⟩)
      · rw [List.getElem?_set_ne (fun e => hji e.symm)] at hj
        exact .inl ⟨hlt, hji, hj⟩
    · have hj' : j = bs.length := by
        have := (List.getElem?_eq_some_iff.1 hj).1
        rw [List.length_append, List.length_singleton, List.length_set] at this
        omega
      subst hj'
      rw [List.getElem?_append_right (by simp)] at hj
      simp at hj
      exact .inr (.inr ⟨rfl, hj.symm⟩)
  have hb0 := h.bx β (Agr.refl _ _)
  have fo : ∀ {j : Nat}, j < bs.length → j ≠ i → (fun k => if j = bs.length then f k else if j = i then f1 k else fp j k) = fp j := fun {j} hj hne => by funext k; simp [show j ≠ bs.length by omega, hne]
  have fi : (fun k => if i = bs.length then f k else if i = i then f1 k else fp i k) = f1 := by funext k; simp [show i ≠ bs.length by omega]
  have fn : (fun k => if bs.length = bs.length then f k else if bs.length = i then f1 k else fp bs.length k) = f := by funext k; simp
  refine ⟨h.fr, fun β' hβ => ?_, fun j r' hj hm' k hk => ?_, ?_, fun j r' hj k hk => ?_⟩
  · rw [List.length_append, List.length_singleton, List.length_set] at hβ
    have hb' := h.bx β' hβ.of_upd
    have hlast : β' bs.length = b := by rw [← hβ bs.length (by omega), upd_at]
    refine ⟨fun j r' hj => ?_, fun j r' hj k hk => ?_, fun j l r2 r3 hj hl hne hmm k hk hk' => ?_⟩
    · rcases old hj with ⟨hlt, hne, hj2⟩ | ⟨ej, e2⟩ | ⟨ej, e2⟩
      · simp only [fo hlt hne]; exact hb'.holds j r' hj2
      · subst ej e2
        rw [fi]
        exact h1 β' hβ.of_upd
      · subst ej e2
        rw [fn, hlast]
        exact hr β' hβ
    · rcases old hj with ⟨hlt, hne, hj2⟩ | ⟨ej, e2⟩ | ⟨ej, e2⟩
      · simp only [if_neg (show j ≠ bs.length by omega), if_neg hne] at hk
        exact hb0.lt j r' hj2 k hk
      · subst ej
        simp only [if_neg (show j ≠ bs.length by omega), if_true] at hk
        exact hb0.lt j r0 hi k (hf1 k hk)
      · subst ej
        simp only [if_true] at hk
        exact hb0.lt i r0 hi k (hf k hk)
    · rcases old hj with ⟨hlt, hnj, hj2⟩ | ⟨ej, e2⟩ | ⟨ej, e2⟩
      · simp only [if_neg (show j ≠ bs.length by omega), if_neg hnj] at hk
        rcases old hl with ⟨hlt', hnl, hl2⟩ | ⟨el, e3⟩ | ⟨el, e3⟩
        · simp only [if_neg (show l ≠ bs.length by omega), if_neg hnl] at hk'
          exact hb0.sep j l r2 r3 hj2 hl2 hne hmm k hk hk'
        · subst el e3
          simp only [if_neg (show l ≠ bs.length by omega), if_true] at hk'
          rcases hmm with hmm | hmm
          · exact hb0.sep j l r2 r0 hj2 hi hnj (.inl hmm) k hk (hf1 k hk')
          · rw [hm1] at hmm; cases hmm
        · subst el e3
          simp only [if_true] at hk'
          rcases hmm with hmm | hmm
          · exact hb0.sep j i r2 r0 hj2 hi hnj (.inl hmm) k hk (hf k hk')
          · exact hb0.sep j i r2 r0 hj2 hi hnj (.inr (hm hmm).1) k hk (hf k hk')
      · subst ej e2
        simp only [if_neg (show j ≠ bs.length by omega), if_true] at hk
        rcases old hl with ⟨hlt', hnl, hl2⟩ | ⟨el, e3⟩ | ⟨el, e3⟩
        · simp only [if_neg (show l ≠ bs.length by omega), if_neg hnl] at hk'
          rcases hmm with hmm | hmm
          · rw [hm1] at hmm; cases hmm
          · exact hb0.sep l j r3 r0 hl2 hi hnl (.inl hmm) k hk' (hf1 k hk)
        · exact hne el.symm
        · subst el e3
          rcases hmm with hmm | hmm
          · rw [hm1] at hmm; cases hmm
          · exact (hm hmm).2 k hk
      · subst ej e2
        simp only [if_true] at hk
        rcases old hl with ⟨hlt', hnl, hl2⟩ | ⟨el, e3⟩ | ⟨el, e3⟩
        · simp only [if_neg (show l ≠ bs.length by omega), if_neg hnl] at hk'
          rcases hmm with hmm | hmm
          · exact hb0.sep l i r3 r0 hl2 hi hnl (.inr (hm hmm).1) k hk' (hf k hk)
          · exact hb0.sep l i r3 r0 hl2 hi hnl (.inl hmm) k hk' (hf k hk)
        · subst el e3
          simp only [if_neg (show l ≠ bs.length by omega), if_true] at hk'
          rcases hmm with hmm | hmm
          · exact (hm hmm).2 k hk'
          · rw [hm1] at hmm; cases hmm
        · exact hne el.symm
  · rcases old hj with ⟨hlt, hne, hj2⟩ | ⟨ej, e2⟩ | ⟨ej, e2⟩
    · simp only [if_neg (show j ≠ bs.length by omega), if_neg hne] at hk
      exact h.mine j r' hj2 hm' k hk
    · subst e2; rw [hm1] at hm'; cases hm'
    · subst ej e2
      simp only [if_true] at hk
      exact h.mine i r0 hi (hm hm').1 k (hf k hk)
  · have hl := h.ini.len
    exact ⟨fun j hj => (h.ini.agr j hj).trans (upd_agr β _ _ j (by omega)), by rw [List.length_append, List.length_set]; omega⟩
  · rcases old hj with ⟨hlt, hne, hj2⟩ | ⟨ej, e2⟩ | ⟨ej, e2⟩
    · simp only [if_neg (show j ≠ bs.length by omega), if_neg hne] at hk
      exact h.foot j r' hj2 k hk
    · subst ej
      simp only [if_neg (show j ≠ bs.length by omega), if_true] at hk
      exact h.foot j r0 hi k (hf1 k hk)
    · subst ej
      simp only [if_true] at hk
      exact h.foot i r0 hi k (hf k hk)
theorem bnds_ok2 {n cap : Nat} (hle : n ≤ cap) {lo hi : Option SV} {c : Prop} {f u : Nat} {β : Nat → Bt} (h : bnds n lo hi = some (c, f, u)) (hc : c) (P : Program) (w : World) :
    (Instr.sliceBounds true n cap (lo.map (conc β)) (hi.map (conc β)) none).run P w = Result.ok (f, u, cap) w ∧ f ≤ u ∧ u ≤ n ∧ (lo = none → f = 0) := by
  unfold bnds at h
  split at h <;> simp only [Option.some.injEq, Prod.mk.injEq, reduceCtorEq] at h
  all_goals
    obtain ⟨rfl, rfl, rfl⟩ := h
    refine ⟨?_, by omega, by omega, by simp⟩
    simp [conc, Instr.sliceBounds, Instr.sliceBound, asIntOf, go_sem]
    try omega
  rw [if_pos (by omega), if_pos (by omega)]
theorem sz_run {e s : Nat} (hs : sz V.Γ e = some s) (w : World) : (Go.sizeOf e).run V.P w = Result.ok s w := by
  unfold sz at hs
  cases htt : V.Γ e with
  | none => simp [htt] at hs
  | some ti => simp [htt] at hs; rw [← hs]; exact (V.gok e ti htt).size w
theorem lies_take {w : World} {b off : Nat} {vs : List Value} (h : Lies w b off vs) (k j : Nat) : Lies w b (off + k) ((vs.take j).drop k) := fun q v hv => by
  have h1 := h (k + q) v (by
    rw [List.getElem?_drop] at hv
    rw [List.getElem?_take] at hv
    split at hv
    · exact hv
    · cases hv)
  rw [Nat.add_assoc]
  exact h1
theorem re_ok (h : Wd F β fp bs w) {t e s : Nat} (ht : V.P.underlying t = some (.slice e)) (hz : (Go.sizeOf e).run V.P w = Result.ok s w) {lo hi : Option SV} {x : SV} {c0 : Prop} {n0 : Nat} {bs2 : List Res} (ha : reS bs lo hi x = some (c0, n0, bs2)) (hc : c0) (hsi : Xc.sizeIs bs x s) :
    ∃ b fp₂, (Instr.sliceAt t (conc β x) (lo.map (conc β)) (hi.map (conc β)) none).run V.P w = Result.ok (oV b n0) w ∧ bs2.length = bs.length + 1 ∧ Wd F (upd β bs.length b) fp₂ bs2 w := by
  unfold reS at ha
  split at ha
  · rename_i i n
    split at ha
    · rename_i c e' s' n' m hi'
      simp only [Xc.sizeIs, hi'] at hsi
      subst hsi
      have hilt : i < bs.length := (List.getElem?_eq_some_iff.1 hi').1
      split at ha
      · rename_i k f u hb
        have hsame : k ∧ n' = n ∧ 0 < s' := by
          split at ha <;> (cases ha; exact hc)
        obtain ⟨hk, rfl, hs0⟩ := hsame
        have ho := h.own hi' (Agr.refl _ β)
        have hgi : getB bs i = some (c, e', m) := by simp [getB, hi']
        -- the new slice, as a thing that may only be read
        have hnew : ∃ b, (Instr.sliceAt t (conc β (.o i n')) (lo.map (conc β)) (hi.map (conc β)) none).run V.P w = Result.ok (oV b (u - f)) w ∧ f ≤ u ∧ u ≤ n' ∧ (lo = none → f = 0) ∧
            (∀ m', (m' = true → m = true ∧ lo = none) → ∀ β', Agr (bs.length + 1) (upd β bs.length b) β' → Holds β' b (fp i) w (.own ((c.take (u * s')).drop (f * s')) e' s' (u - f) m')) := by
          rcases ho with ⟨h1, h2, h3, h4⟩ | ⟨h1, h2, h3, h4, h5, h6, h7⟩
          · subst h2 h3
            obtain ⟨hsb, hfu, hun, hlo⟩ := bnds_ok2 (β := β) (Nat.le_refl 0) hb hk V.P w
            have hu : u = 0 := by omega
            have hf : f = 0 := by omega
            subst hu hf
            refine ⟨⟨0, 0, 0⟩, ?_, Nat.le_refl _, Nat.le_refl _, fun _ => rfl, fun m' _ β' _ => .inl ⟨rfl, rfl, by simp, h4⟩⟩
            simp only [conc, oV, if_pos h1]
            simp [Instr.sliceAt, Instr.slice, run_underlying ht, hsb, hz]
          · obtain ⟨hsb, hfu, hun, hlo⟩ := bnds_ok2 (β := β) h2 hb hk V.P w
            refine ⟨⟨(β i).blk, if (β i).cap - 1 = f then (β i).off else (β i).off + f * s', (β i).cap - 1 - f + 1⟩, ?_, hfu, hun, hlo, fun m' hm' β' hβ => .inr ⟨by simp, by simp; omega, by simp; omega, ?_, ?_, fun hm => ?_, h7⟩⟩
            · simp only [conc, oV, if_neg h1]
              simp only [Instr.sliceAt, Instr.slice, run_underlying ht, hsb, hz, Sem.run_bind, Result.andThen_ok, Sem.run_pure, Option.map_some, addr_plus]
              simp
              split <;> rfl
            · rw [List.length_drop, List.length_take, h4, Nat.min_eq_left (Nat.mul_le_mul_right _ hun), Nat.sub_mul]
            · have := lies_take h5 (f * s') (u * s')
              rw [h.agr hgi hβ.of_upd] at this
              rw [List.map_drop, List.map_take]
              by_cases hcf : (β i).cap - 1 = f
              · have : u = f := by omega
                subst this
                intro q v hv
                rw [List.drop_of_length_le (by rw [List.length_take]; exact Nat.min_le_left _ _)] at hv
                cases hv
              · simp only [if_neg hcf]
                exact this
            · obtain ⟨hm1, hlo1⟩ := hm' hm
              have hf0 := hlo hlo1
              subst hf0
              obtain ⟨h8, rest, fz, h9, h10, h11⟩ := h6 hm1
              have hus : u * s' ≤ c.length := by rw [h4]; exact Nat.mul_le_mul_right _ hun
              refine ⟨by simp [h8], (c.drop (u * s')).map (conc β') ++ rest, fz, ⟨?_, ?_⟩, ?_, ?_⟩
              · rw [h9.1, Nat.zero_mul, List.drop_zero, ← List.append_assoc, ← List.map_append, List.take_append_drop, h.agr hgi hβ.of_upd]
              · have := h9.2
                simp at this ⊢
                omega
              · simp
                omega
              · simp
                omega
        obtain ⟨b, hrun, hfu, hun, hlo, hnw⟩ := hnew
        cases lo with
        | none =>
          cases ha
          have hf0 := hlo rfl
          subst hf0
          have hnw' := hnw m (fun hm => ⟨hm, rfl⟩)
          simp only [Nat.zero_mul, List.drop_zero, Nat.sub_zero] at hnw' hrun
          exact ⟨b, _, hrun, by simp, h.split hi' .gone _ b (fun _ => False) (fp i) (fun β' hβ k hk => hk) rfl (fun k hk => hk.elim) hnw' (fun k hk => hk) (fun hm => ⟨hm, fun k hk => hk⟩)⟩
        | some l =>
          cases ha
          refine ⟨b, _, hrun, by simp, h.split hi' (.own c e' s' n' false) _ b (fp i) (fp i) (fun β' hβ => ?_) rfl (fun k hk => hk) (hnw false (by simp)) (fun k hk => hk) (fun hm => by cases hm)⟩
          rcases h.own hi' hβ with hh | ⟨h1, h2, h3, h4, h5, -, h7⟩
          · exact .inl hh
          · exact .inr ⟨h1, h2, h3, h4, h5, (by simp), h7⟩
      · cases ha
    · cases ha
  · cases ha
theorem fillN_len {s : Nat} : ∀ {ps : List (Nat × SV)} {k : Nat} {c : List SV}, Yi s k ps = some c → c.length = ps.length * s
  | [], k, c, h => by cases h; simp
  | (i, x) :: r, k, c, h => by
    simp only [Yi] at h
    split at h
    · rename_i hc
      split at h
      · rename_i c1 h1
        cases h
        rw [List.length_append, fillN_len h1, hc.2.2, List.length_cons, Nat.add_mul]
        omega
      · cases h
    · cases h
theorem fillN_ok (β : Nat → Bt) (s : Nat) : ∀ (ps : List (Nat × SV)) (k : Nat) (c : List SV), Yi s k ps = some c → ∀ (cs : Array Value), (k + ps.length) * s ≤ cs.size →
    Instr.fill (fun i => some (i * s, s)) cs (ps.map fun p => (p.1, conc β p.2)) = some (cs.toList.take (k * s) ++ c.map (conc β) ++ cs.toList.drop ((k + ps.length) * s)).toArray
  | [], k, c, h, cs, hcs => by
    cases h
    simp [Instr.fill]
  | (i, x) :: r, k, c, h, cs, hcs => by
    simp only [Yi] at h
    split at h
    · rename_i hc
      obtain ⟨rfl, hv, hl⟩ := hc
      split at h
      · rename_i c1 h1
        cases h
        have hcells := conc_cells' β x hv
        rw [List.length_cons] at hcs
        have e0 : (i + (r.length + 1)) * s = (i + 1 + r.length) * s := by congr 1; omega
        rw [e0] at hcs
        have e1 : (i + 1) * s = i * s + s := by rw [Nat.add_mul, Nat.one_mul]
        have e2 : (i + 1) * s ≤ (i + 1 + r.length) * s := Nat.mul_le_mul_right _ (by omega)
        simp only [List.map_cons, Instr.fill, hcells, List.size_toArray, List.length_map]
        rw [if_neg (by simp [hl]; omega)]
        have hz := zip_fold (i * s) ((cells x).map (conc β)) 0 cs (by simp; omega)
        rw [← Array.foldl_toList, Array.toList_zipIdx]
        simp only [Nat.add_zero, List.length_map] at hz
        rw [hz, fillN_ok β s r (i + 1) c1 h1 _ (by simp [hl]; omega)]
        congr 2
        rw [List.length_cons, e0]
        simp only [List.map_append, hl]
        have l1 : (cs.toList.take (i * s)).length = i * s := by simp; omega
        have l2 : (cs.toList.take (i * s) ++ (cells x).map (conc β)).length = (i + 1) * s := by rw [List.length_append, l1, List.length_map, hl, e1]
        rw [List.take_append_of_le_length (by omega), List.take_of_length_le (by omega), List.drop_append, List.drop_of_length_le (by omega), List.nil_append, l2, List.drop_drop]
        have e3 : i * s + s + ((i + 1 + r.length) * s - (i + 1) * s) = (i + 1 + r.length) * s := by omega
        rw [e3]
        simp
      · cases h
    · cases h
def repL : List Value → Nat → List Value
  | _, 0 => []
  | z, n + 1 => z ++ repL z n
theorem repL_length (z : List Value) : ∀ n, (repL z n).length = n * z.length
  | 0 => by simp [repL]
  | n + 1 => by simp [repL, repL_length z n, Nat.add_mul, Nat.add_comm]
theorem repL_get (z : List Value) : ∀ (n j : Nat), j < n * z.length → (repL z n)[j]? = z[j % z.length]?
  | 0, j, h => by simp at h
  | n + 1, j, h => by
    simp only [repL]
    by_cases hj : j < z.length
    · rw [List.getElem?_append_left hj, Nat.mod_eq_of_lt hj]
    · rw [List.getElem?_append_right (by omega), repL_get z n (j - z.length) (by rw [Nat.add_mul] at h; omega)]
      congr 1
      rw [Nat.mod_eq_sub_mod (by omega : j ≥ z.length)]
theorem made_rep (z : Array Value) (n : Nat) (hz : 0 < z.size) : (madeCells z (n * z.size)).toList = repL z.toList n := by
  apply List.ext_getElem?
  intro j
  by_cases hj : j < n * z.size
  · rw [repL_get _ _ _ (by simpa using hj)]
    have hm : j % z.size < z.size := Nat.mod_lt _ hz
    simp [madeCells, hj, hm]
  · rw [List.getElem?_eq_none (by simp [madeCells]; omega), List.getElem?_eq_none (by rw [repL_length]; simpa using hj)]
theorem repL_take (z : List Value) : ∀ (n k : Nat), k ≤ n → repL z k = (repL z n).take (k * z.length)
  | _, 0, _ => by simp [repL]
  | 0, k + 1, h => by omega
  | n + 1, k + 1, h => by
    simp only [repL]
    rw [Nat.add_mul, Nat.one_mul, Nat.add_comm, List.take_length_add_append, ← repL_take z n k (by omega)]
theorem repS_map (z : List SV) (β : Nat → Bt) : ∀ n, (repS z n).map (conc β) = repL (z.map (conc β)) n
  | 0 => rfl
  | n + 1 => by simp [repS, repL, repS_map z β n]
theorem wpv {o : Oper} {v : Value} {w w' : World} {K : St → Prop} {Q : Exit → Act → World → Prop} (h : (execOp a.eval o).run V.P w = Result.ok (.value v) w') {σ : St} (hK : K σ) (hr : Rel F σ (a.put o.dst v) w') : o.wp V.P a w (fun a w => ∃ σ, K σ ∧ Rel F σ a w) Q :=
  wp_of_value h ⟨σ, hK, hr⟩
set_option maxHeartbeats 2000000 in
theorem stepN_sound {dst : Option Tmp} {op : Op} {σ σ' : St} {c : Prop} {K : St → Prop} (hfit : fits F.n dst = true) (h : Yl V dst op σ = some (c, σ')) (hc : c) (hK : K σ') {a : Act} {w : World} (hr : Rel F σ a w) (ty : TypeId) (pos : String) (after : Array Edge) (guard : Option (Nat × Bool)) (Q : Exit → Act → World → Prop) :
    (⟨dst, op, ty, pos, after, guard⟩ : Oper).wp V.P a w (fun a w => ∃ σ, K σ ∧ Rel F σ a w) Q := by
  obtain ⟨β, fp, hf, hw⟩ := hr
  have mm : ∀ (min : Bool) (args : Array Operand) (ts : Array TypeId), Xq min dst args.toList σ = some (c, σ') → (⟨dst, .call ⟨.builtin (if min then .min else .max), args, ts⟩, ty, pos, after, guard⟩ : Oper).wp V.P a w (fun a w => ∃ σ, K σ ∧ Rel F σ a w) Q := fun min args ts h => by
    unfold Xq at h
    split at h
    · rename_i x y hxy
      split at h
      · rename_i x' hx
        split at h
        · rename_i y' hy
          simp only [Option.map_eq_some_iff, Prod.mk.injEq] at h
          obtain ⟨z, hz, -, rfl⟩ := h
          have ea : args = #[x, y] := by apply Array.ext'; simpa using hxy
          subst ea
          have h1 := hf.ev hx (Agr.refl _ β)
          have h2 := hf.ev hy (Agr.refl _ β)
          unfold mmS at hz
          split at hz
          · cases hz
            simp only [conc] at h1 h2
            refine wpv (v := _) (w' := w) ?_ hK ⟨β, fp, hf.put hfit (fun β' _ => rfl), hw⟩
            cases min
            · simp only [Bool.false_eq_true, if_false, execOp, resolve, invoke, builtin, Builtin.max_, Builtin.max2, conc]
              generalize a.eval = ρ at h1 h2
              simp [h1, h2, Builtin.max_, Builtin.max2]
            · simp only [if_true, execOp, resolve, invoke, builtin, Builtin.min_, Builtin.min2, conc]
              generalize a.eval = ρ at h1 h2
              simp [h1, h2, Builtin.min_, Builtin.min2]
          · cases hz
        · cases h
      · cases h
    · cases h
  cases op <;> simp only [Yl, reduceCtorEq] at h
  case call cl =>
    obtain ⟨callee, args, ts⟩ := cl
    cases callee <;> (try simp only [reduceCtorEq] at h)
    rename_i bi
    cases bi <;> (try simp only [reduceCtorEq] at h)
    case append =>
      unfold Xm at h
      (repeat' split at h) <;> try (cases h; done)
      rename_i s x hargs _ t u hts _ e ht _ ku hu _ ti hti _ sv hs _ xv hx _ n c0 bs2 hd _ m xs hsrc
      cases h
      obtain ⟨hku, hs0, h1, h63, hby⟩ := hc
      have ea : args = #[s, x] := by apply Array.ext'; simpa using hargs
      have et : ts = #[t, u] := by apply Array.ext'; simpa using hts
      subst ea et
      obtain ⟨d1, hd1, hk1⟩ := kd_some V.gok ht
      obtain ⟨d2, hd2, hk2⟩ := kd_some V.gok hu
      simp only [undSays] at hk1
      subst hk1
      have hdd : d2 = .string ∨ ∃ e', d2 = .slice e' := by
        cases ku <;> simp [XP] at hku <;> simp only [undSays] at hk2
        · exact .inl hk2
        · exact .inr ⟨_, hk2⟩
      obtain ⟨b, fp₂, w', hrun, hwd⟩ := app_ok hw hd1 hd2 hdd hti rfl hs0 hd hsrc (fun β' hβ => by rw [← hf.ev hx (Agr.refl _ β), ← hf.ev hx hβ]) h1 h63 hby ty
      rw [← hf.ev hs (Agr.refl _ β), ← hf.ev hx (Agr.refl _ β)] at hrun
      refine wpv (v := oV b (n + m)) (w' := w') ?_ hK ⟨_, fp₂, (hf.more (by simp [dst_len hd]) (upd_agr _ _ _)).put hfit (fun β' hβ => ?_), hwd⟩
      · show Sem.run V.P (do let d ← resolve a.eval ⟨.builtin .append, #[s, x], #[t, u]⟩ ty; invoke d.target d.args) w = _
        simp only [resolve, Sem.run_bind, Sem.run_pure, Result.andThen_ok, invoke, builtin, List.map_toArray, List.map_cons, List.map_nil, hrun]
      · simp only [conc]
        rw [← hβ σ.b.length (by simp [dst_len hd]), upd_at]
    case min => exact mm true args ts h
    case max => exact mm false args ts h
  case makeSlice ts l c' =>
    unfold Yn at h
    (repeat' split at h) <;> try (cases h; done)
    rename_i _ e ht _ ti hti _ kl l' hl _ kc c' hc'
    cases h
    obtain ⟨h0, hlc, hby, h63, hs0⟩ := hc
    obtain ⟨d1, hd1, hk1⟩ := kd_some V.gok ht
    simp only [undSays] at hk1
    subst hk1
    obtain ⟨i, z, hi, hz, hisz, hiby, hzc⟩ := (V.gok e ti hti).info
    have hzl := (V.gok e ti hti).len
    have hfl := (V.gok e ti hti).flat
    have hrun := run_make (P := V.P) w ts e i z hd1 hi hz kl kc l' c' h0 hlc (by rw [hiby]; exact hby) h63
    have e1 := hf.ev hl (Agr.refl _ β)
    have e2 := hf.ev hc' (Agr.refl _ β)
    simp only [conc] at e1 e2
    rw [← e1, ← e2] at hrun
    have hnn : l'.toNat ≤ c'.toNat := by omega
    have hzs : z.cells.size = ti.size := by rw [hzc]; simp [hzl]
    have hzt : z.cells.toList = ti.zero.map (conc bt0) := by rw [hzc]
    have hM : (madeCells z.cells (c'.toNat * i.size)).toList = repL (ti.zero.map (conc bt0)) c'.toNat := by
      rw [hisz, ← hzs, made_rep _ _ (by omega), hzt]
    have hlz : (ti.zero.map (conc bt0)).length = ti.size := by simpa using hzl
    have hsl : (repS ti.zero l'.toNat).length = l'.toNat * ti.size := by
      have := congrArg List.length (repS_map ti.zero bt0 l'.toNat)
      rw [repL_length, hlz] at this
      simpa using this
    have hmade : ∀ β', (madeCells z.cells (c'.toNat * i.size)).toList = (repS ti.zero l'.toNat).map (conc β') ++ (madeCells z.cells (c'.toNat * i.size)).toList.drop (l'.toNat * ti.size) := fun β' => by
      rw [hM, repS_map, hfl β', repL_take _ _ _ hnn, hlz, List.take_append_drop]
    have hwd := hw.more (w' := w.alloc (.cells (madeCells z.cells (c'.toNat * i.size)) e)) ((Below.refl _ _).alloc (Nat.le_refl _) _) (.own (repS ti.zero l'.toNat) e ti.size l'.toNat true) ⟨w.heap.size, 0, c'.toNat + 1⟩ (· = w.heap.size) (fun β' hβ => holds_row (rest := (madeCells z.cells (c'.toNat * i.size)).toList.drop (l'.toNat * ti.size)) (fz := (0, 0)) (by
        rw [heap_new, ← hmade β']) (.inr (Nat.le_refl _)) hsl hnn (by unfold maxLen; omega) (by
        rw [hsl, List.length_drop, hM, repL_length, hlz]
        have : l'.toNat * ti.size ≤ c'.toNat * ti.size := Nat.mul_le_mul_right _ hnn
        omega)) (fun k hk => by subst hk; exact ⟨Nat.le_refl _, by rw [size_alloc]; exact Nat.lt_succ_self _⟩)
    refine wpv (run_val hrun) hK ⟨_, _, (hf.more (by simp) (upd_agr _ _ _)).put hfit (fun β' hβ => ?_), hwd⟩
    simp only [conc]
    rw [← hβ σ.b.length (by simp), upd_at]
    simp [oV]
  case indexAddr ts x i =>
    unfold Xc at h
    (repeat' split at h) <;> try (cases h; done)
    rename_i _ e ht _ s hs _ x' hx _ k kk hi _ c0 y ha
    cases h
    unfold Ym at ha
    split at ha
    · rename_i j n
      split at ha
      · rename_i cc ee ss nn mm' hj
        cases ha
        obtain ⟨⟨rfl, hss, hk0, hkn⟩, hsz⟩ := hc
        simp only [Xc.sizeIs, hj] at hsz
        subst hsz
        obtain ⟨d1, hd1, hk1⟩ := kd_some V.gok ht
        simp only [undSays] at hk1
        subst hk1
        have hz : (Go.sizeOf e).run V.P w = Result.ok ss w := by
          unfold sz at hs
          cases htt : V.Γ e with
          | none => simp [htt] at hs
          | some ti => simp [htt] at hs; rw [← hs]; exact (V.gok e ti htt).size w
        have hnz : (β j).cap ≠ 0 := by
          rcases hw.own hj (Agr.refl _ β) with ⟨-, h2, -⟩ | ⟨h2, -⟩
          · subst h2; omega
          · exact h2
        have e1 := hf.ev hx (Agr.refl _ β)
        have e2 := hf.ev hi (Agr.refl _ β)
        simp only [conc, oV, if_neg hnz] at e1 e2
        refine wpv (v := conc β (.p j (kk.toNat * ss))) (w' := w) ?_ hK ⟨β, fp, hf.put hfit (fun β' hβ => ?_), hw⟩
        · refine run_val ?_
          rw [e1, e2]
          simp [Instr.indexAt, asIntOf, run_underlying hd1, hk0, hkn, hz, conc, addr_plus]
        · simp only [conc]
          rw [hβ j (List.getElem?_eq_some_iff.1 hj).1]
      · cases ha
    · cases ha
  case slice ts x lo hi mx =>
    cases mx <;> simp only [reduceCtorEq] at h
    unfold Xj at h
    (repeat' split at h) <;> try (cases h; done)
    rename_i _ e ht _ s hs _ x' hx _ lo' hlo _ hi' hhi _ c0 n0 bs2 ha
    cases h
    obtain ⟨hc, hsi⟩ := hc
    obtain ⟨d1, hd1, hk1⟩ := kd_some V.gok ht
    simp only [undSays] at hk1
    subst hk1
    have hz : (Go.sizeOf e).run V.P w = Result.ok s w := sz_run hs w
    obtain ⟨b, fp₂, hrun, hlen, hwd⟩ := re_ok hw hd1 hz ha hc hsi
    have hv : (execOp a.eval (⟨dst, .slice ts x lo hi none, ty, pos, after, guard⟩ : Oper)).run V.P w = Result.ok (.value (oV b n0)) w := by
      refine run_val ?_
      rw [hf.ev hx (Agr.refl _ β), opt_map (hf.ok β (Agr.refl _ _)) hlo, opt_map (hf.ok β (Agr.refl _ _)) hhi]
      exact hrun
    refine wpv hv hK ⟨_, fp₂, (hf.more (by rw [hlen]; exact Nat.le_succ _) (upd_agr _ _ _)).put hfit (fun β' hβ => ?_), hwd⟩
    simp only [conc]
    rw [← hβ σ.b.length (by rw [hlen]; exact Nat.lt_succ_self _), upd_at]
  case convert ts td x =>
    unfold Yb at h
    (repeat' split at h) <;> try (cases h; done)
    · rename_i _ hts _ e htd _ hte _ l hx
      cases h
      obtain ⟨d1, hd1, hk1⟩ := kd_some V.gok hts
      obtain ⟨d2, hd2, hk2⟩ := kd_some V.gok htd
      obtain ⟨d3, hd3, hk3⟩ := kd_some V.gok hte
      simp only [undSays] at hk1 hk2 hk3
      subst hk1 hk2 hk3
      have hrun := Lib.run_convert_string_bytes w ts td e ⟨List.toArray l⟩ hd1 hd2 hd3
      have hss : (⟨List.toArray l⟩ : ByteArray).size = l.length := rfl
      rw [hss] at hrun
      have hge := grownCap_ge w l.length 0 e
      have hle := grownCap_le_maxLen w l.length 0 e hc
      have hbc : Lib.bytesCells w e ⟨List.toArray l⟩ = ((l.map u8S).map (conc β) ++ List.replicate (grownCap w l.length 0 e - l.length) (Value.int .u8 0)).toArray := by
        apply Array.ext'
        simp [Lib.bytesCells, u8S, conc, Function.comp_def, hss]
      have hnew := Lib.bytesWorld_at_new w e ⟨List.toArray l⟩
      have hbel : Below w.heap.size w (Lib.bytesWorld w e ⟨List.toArray l⟩) := ⟨by simp [Lib.bytesWorld, World.freeze]; rfl, rfl, rfl, by rw [Lib.bytesWorld_size]; omega, fun k hk => Lib.bytesWorld_at_old _ _ _ k hk⟩
      have hsize := Lib.bytesWorld_size w e ⟨List.toArray l⟩
      rw [hbc] at hnew
      generalize Lib.bytesWorld w e ⟨List.toArray l⟩ = w1 at hrun hnew hbel hsize
      generalize grownCap w l.length 0 e = cap' at hrun hnew hge hle
      have hwd := hw.more hbel (.own (l.map u8S) e 1 l.length true) ⟨w.heap.size, 0, cap' + 1⟩ (· = w.heap.size) (fun β' hβ => holds_row (by
        rw [hnew]
        congr 3
        rw [List.map_map, List.map_map]
        rfl) (by left; simp) (by simp) hge hle (by simp; omega)) (fun k hk => by subst hk; exact ⟨Nat.le_refl _, by rw [hsize]; exact Nat.lt_succ_self _⟩)
      have e1 := hf.ev hx (Agr.refl _ β)
      simp only [conc] at e1
      rw [← e1] at hrun
      refine wpv (run_val hrun) hK ⟨_, _, (hf.more (by simp) (upd_agr _ _ _)).put hfit (fun β' hβ => ?_), hwd⟩
      simp only [conc]
      rw [← hβ σ.b.length (by simp), upd_at]
      simp [oV]
    · rename_i _ e hts _ htd _ hte _ hx
      cases h
      obtain ⟨d1, hd1, hk1⟩ := kd_some V.gok hts
      obtain ⟨d2, hd2, hk2⟩ := kd_some V.gok htd
      obtain ⟨d3, hd3, hk3⟩ := kd_some V.gok hte
      simp only [undSays] at hk1 hk2 hk3
      subst hk1 hk2 hk3
      have e1 := hf.ev hx (Agr.refl _ β)
      simp only [conc] at e1
      have hrun := run_convert_bytes_nil w ts e hd1 hd3 0 0 td hd2
      rw [← e1] at hrun
      exact wpv (run_val hrun) hK ⟨β, fp, hf.put hfit (fun β' hβ => by simp [conc]; rfl), hw⟩
    · rename_i _ e hts _ htd _ hte _ i n hx _ c0 ee s n' mm' hi
      cases h
      obtain ⟨rfl, rfl, hall⟩ := hc
      obtain ⟨d1, hd1, hk1⟩ := kd_some V.gok hts
      obtain ⟨d2, hd2, hk2⟩ := kd_some V.gok htd
      obtain ⟨d3, hd3, hk3⟩ := kd_some V.gok hte
      simp only [undSays] at hk1 hk2 hk3
      subst hk1 hk2 hk3
      have e1 := hf.ev hx (Agr.refl _ β)
      simp only [conc, oV] at e1
      have hrun : (convert ts td (a.eval x)).run V.P w = Result.ok (.string ⟨List.toArray (c0.map unU8)⟩) w := by
        rw [e1]
        rcases hw.own hi (Agr.refl _ β) with ⟨h1, rfl, rfl, -⟩ | ⟨h1, h2, h3, h4, h5, -⟩
        · rw [if_pos h1]
          exact run_convert_bytes_nil w ts e hd1 hd3 0 0 td hd2
        · rw [if_neg h1]
          have hl : n' = (c0.map unU8).length := by simpa using h4.symm
          rw [hl]
          refine run_convert_bytes_back w ts td e _ _ (c0.map unU8) hd1 hd3 hd2 (fun j hj => ?_)
          rw [addr_plus]
          have hj' : j < c0.length := by simpa using hj
          refine h5 j _ ?_
          simp only [List.getElem?_map, List.getElem?_eq_getElem hj', Option.map_some, List.getElem_map]
          rw [conc_unU8 β (List.all_eq_true.1 hall _ (List.getElem_mem hj'))]
      exact wpv (run_val hrun) hK ⟨β, fp, hf.put hfit (fun β' hβ => by simp [conc]), hw⟩
  case buildSlice ts n ps =>
    unfold Xa at h
    (repeat' split at h) <;> try (cases h; done)
    rename_i _ e ht _ ti hti _ l hl _ c0 hfl
    cases h
    obtain ⟨hpn, h24, hs0⟩ := hc
    obtain ⟨d1, hd1, hk1⟩ := kd_some V.gok ht
    simp only [undSays] at hk1
    subst hk1
    obtain ⟨i, z, hi, hz, hisz, hiby, hzc⟩ := (V.gok e ti hti).info
    have hps := fun β' hβ => evParts_ok (β' := β') hf hβ hl
    have hcl := fillN_len hfl
    rw [hpn] at hcl
    have hfill := fun β' => fillN_ok β' ti.size l 0 c0 hfl ((Array.range (n * i.size)).map (z.cells[· % z.cells.size]!)) (by rw [Nat.zero_add, hpn]; simp [hisz])
    have hrun : ∀ β', Agr σ.b.length β β' → (Instr.buildSlice ts n (ps.map fun p => (p.1, a.eval p.2))).run V.P w = Result.ok (.slice (some ⟨w.heap.size, 0, none⟩) n n) (w.alloc (.cells (c0.map (conc β')).toArray e)) := fun β' hβ => by
      have e2 := hps β' hβ
      by_cases hn : n = 0
      · subst hn
        have hl0 : l = [] := List.eq_nil_of_length_eq_zero hpn
        subst hl0
        have hc0 : c0 = [] := List.eq_nil_of_length_eq_zero (by rw [hcl]; simp)
        subst hc0
        have e3 : (ps.toList.map fun p => (p.1, a.eval p.2)) = [] := e2
        have e4 : Array.range 0 = #[] := rfl
        simp [Instr.buildSlice, run_underlying hd1, Go.sizeOf, typeInfo, hi, e3, Instr.fill, newRow, e4]
      · refine run_buildSlice (P := V.P) w ts e n (ps.map fun p => (p.1, a.eval p.2)) (c0.map (conc β')).toArray i z hd1 hi hz (by rw [hisz]; omega) (by rw [hisz]; exact Nat.ne_of_gt (Nat.mul_pos (by omega) hs0)) ?_
        have e3 := hfill β'
        rw [← hisz] at e3
        rw [Array.toList_map, e2, e3]
        congr 1
        apply Array.ext'
        rw [Nat.zero_add, hpn]
        simp
    have hag : ∀ β', Agr σ.b.length β β' → c0.map (conc β) = c0.map (conc β') := fun β' hβ => by
      have h1 := hrun β (Agr.refl _ _)
      rw [hrun β' hβ] at h1
      injection h1 with _ h1
      have h2 := congrArg (fun w' : World => w'.heap[w.heap.size]?) h1
      simp only [heap_new] at h2
      have h3 := (Obj.cells.inj (Option.some.inj h2)).1
      have h4 := congrArg Array.toList h3
      exact h4.symm
    have hwd := hw.more (w' := w.alloc (.cells (c0.map (conc β)).toArray e)) ((Below.refl _ _).alloc (Nat.le_refl _) _) (.own c0 e ti.size n true) ⟨w.heap.size, 0, n + 1⟩ (· = w.heap.size) (fun β' hβ => holds_row (rest := []) (fz := (0, 0)) (by
      rw [heap_new, hag β' hβ.of_upd, List.append_nil]) (.inr (Nat.le_refl _)) hcl (Nat.le_refl _) (by unfold maxLen; have : n * 1 ≤ n * ti.size := Nat.mul_le_mul_left _ hs0; omega) (by simpa using hcl)) (fun k hk => by subst hk; exact ⟨Nat.le_refl _, by rw [size_alloc]; exact Nat.lt_succ_self _⟩)
    refine wpv (run_val (hrun β (Agr.refl _ _))) hK ⟨_, _, (hf.more (by simp) (upd_agr _ _ _)).put hfit (fun β' hβ => ?_), hwd⟩
    simp only [conc]
    rw [← hβ σ.b.length (by simp), upd_at]
    simp [oV]
end
end Vc
