/- Texts of this claim,laid together: OpenD,TreeB,EncE,R17A,R17B,DocL,Ex,ExB,ExS,Sane17,Law17e. -/
import Derived.Test.YtejfjmcjicpodaaGreatDoorE3
/- DID documents among the arguments. -/
set_option linter.all false
namespace Go.Proofs.YtejfjmcjicpodaaGreatDoor
open Go Vc Go.RowKit Wf
open Go.ChangeShapes Go.WideShapes Go.ChangeAt
open Go.WideMaps Go.WideElems
section
variable {H : Type} {enc : TypeId × Value → H} {w : World} {held : Bool}
def WB (t : TypeId) (d : DataW H) : Prop := WOk t d ∧ Rows.uptoBulk d ≤ 1048576
theorem bulk_mem {L : List (DataW H)} {d : DataW H} (hd : d ∈ L) : Rows.uptoBulk d ≤ Rows.uptoBulkAll L := by
  induction L with
  | nil => cases hd
  | cons q L ih =>
    simp only [Rows.uptoBulkAll]
    rcases List.mem_cons.1 hd with rfl | hd
    · omega
    · have := ih hd; omega
theorem bulk_pos (d : DataW H) : 1 ≤ Rows.uptoBulk d := by
  cases d with
  | lit l => cases l <;> simp [Rows.uptoBulk]
  | nil => simp [Rows.uptoBulk]
  | ptr d => simp [Rows.uptoBulk]
  | slice e s => simp [Rows.uptoBulk]
  | agg p => simp [Rows.uptoBulk]
  | iface t d => simp [Rows.uptoBulk]
  | map e => simp [Rows.uptoBulk]
  | held h => simp [Rows.uptoBulk]
theorem bulk_len (L : List (DataW H)) : L.length ≤ Rows.uptoBulkAll L := by
  induction L with
  | nil => simp
  | cons q L ih =>
    have := bulk_pos q
    simp only [Rows.uptoBulkAll,List.length_cons]
    omega
theorem WB.elem {t e : TypeId} (ht : Tryz.prog.underlying t = some (.slice e)) {L sp : List (DataW H)} (h : WB t (.slice L sp)) : ∀ d ∈ L,WB e d := fun d hd => ⟨h.1.elem ht d hd,by
  have h1 := h.2
  have h2 := bulk_mem hd
  simp only [Rows.uptoBulk] at h1
  omega⟩
theorem WB.field {t u : TypeId} {fs : Array Field} (ht : Tryz.prog.underlying t = some (.struct fs)) {parts : List (DataW H)} (h : WB t (.agg parts)) {j : Nat} {d : DataW H} (hj : (fs.toList.map (·.type))[j]? = some u) (hd : parts[j]? = some d) : WB u d := ⟨h.1.field ht hj hd,by
  have h1 := h.2
  have h2 := bulk_mem (List.mem_of_getElem? hd)
  simp only [Rows.uptoBulk] at h1
  omega⟩
theorem WB.len {t : TypeId} {ρ : Type} {L : List ρ} {d : DataW H} (h : WB t d) (hL : L = [] ∨ ∃ Le sp,d = .slice Le sp ∧ Le.length = L.length) : L.length ≤ 1100000 := by
  rcases hL with rfl | ⟨Le,sp,rfl,hl⟩
  · simp
  · have h1 := h.2
    have h2 := bulk_len Le
    simp only [Rows.uptoBulk] at h1
    omega
set_option maxRecDepth 20000 in
theorem open_service {M : Nat} {l : List (Bt × Res)} (hl : OpenL w l) (cs : List Value) (x : DataW H × List MemPlace) (h : DataW.trod enc Tryz.prog w 0 (fun _ => true) held M 46 cs = some x) (hW : WB 46 x.1) :
    ∃ (ls : List (Bt × Res)) (r : Sq),OpenL w (l ++ ls) ∧ (∀ β,Ext β (l ++ ls) → cs = (sqc r).map (conc β)) ∧ (SqOk (bsL (l ++ ls)) r ∧ r.m.id.length ≤ 140737488355328 ∧ (r.m.types.length ≤ 1100000 ∧ ∀ s ∈ r.m.types,s.length ≤ 140737488355328) ∧ (r.m.ends.length ≤ 1100000 ∧ ∀ s ∈ r.m.ends,s.length ≤ 140737488355328)) := by
  obtain ⟨xs,n,rfl,rfl,hlen,hxl,hf⟩ := DataW.trod_struct Tryz.underlying46 h
  have hC : Tryz.prog.cellsOf 46 = 3 := by kernel_rfl
  rw [hC] at hlen
  obtain ⟨c0,c1,c2,rfl⟩ : ∃ c0 c1 c2,cs = [c0,c1,c2] := by
    match cs,hlen with
    | [c0,c1,c2],_ => exact ⟨c0,c1,c2,rfl⟩
  obtain ⟨y0,y1,y2,rfl⟩ : ∃ y0 y1 y2,xs = [y0,y1,y2] := by
    match xs,hxl with
    | [y0,y1,y2],_ => exact ⟨y0,y1,y2,rfl⟩
  have e0 : DataW.trod enc Tryz.prog w 0 (fun _ => true) held n 9 [c0] = some y0 := hf 0 _ rfl
  have e1 : DataW.trod enc Tryz.prog w 0 (fun _ => true) held n 22 [c1] = some y1 := hf 1 _ rfl
  have e2 : DataW.trod enc Tryz.prog w 0 (fun _ => true) held n 22 [c2] = some y2 := hf 2 _ rfl
  have w0 : WB 9 y0.1 := hW.field Tryz.underlying46 (j := 0) rfl rfl
  have w1 : WB 22 y1.1 := hW.field Tryz.underlying46 (j := 1) rfl rfl
  have w2 : WB 22 y2.1 := hW.field Tryz.underlying46 (j := 2) rfl rfl
  obtain ⟨⟨⟨t⟩⟩,q0,rfl,-⟩ := DataW.trod_string Tryz.underlying9 e0
  obtain rfl := (List.cons.inj q0).1
  obtain ⟨ls,xk,K,g1,g2,g3,g4,g5,g6⟩ := open_strs hl e1 w1.1
  obtain ⟨ls',xi,E,k1,k2,k3,k4,k5,k6⟩ := open_strs g1 e2 w2.1
  rw [List.append_assoc] at k1 k2 k3
  refine ⟨ls ++ ls',⟨⟨t,K,E⟩,xk,xi⟩,k1,fun β hβ => ?_,⟨?_,k3⟩,w0.1.str,⟨w1.len g6,g5⟩,w2.len k6,k5⟩
  · rw [g2 β (by rw [← List.append_assoc] at hβ; exact hβ.left),k2 β hβ]
    simp [sqc,conc]
  · rw [← List.append_assoc]; exact g3.ro (bsL_ro _ _)
set_option maxRecDepth 20000 in
theorem trod_meth {M : Nat} (cs : List Value) (x : DataW H × List MemPlace) (h : DataW.trod enc Tryz.prog w 0 (fun _ => true) held M 48 cs = some x) (hW : WB 48 x.1) :
    ∃ r : Mtm,(∀ β,cs = (mc r).map (conc β)) ∧ r.id.length ≤ 140737488355328 ∧ r.type.length ≤ 140737488355328 ∧ r.ctrl.length ≤ 140737488355328 := by
  obtain ⟨xs,n,rfl,rfl,hlen,hxl,hf⟩ := DataW.trod_struct Tryz.underlying48 h
  have hC : Tryz.prog.cellsOf 48 = 3 := by kernel_rfl
  rw [hC] at hlen
  obtain ⟨c0,c1,c2,rfl⟩ : ∃ c0 c1 c2,cs = [c0,c1,c2] := by
    match cs,hlen with
    | [c0,c1,c2],_ => exact ⟨c0,c1,c2,rfl⟩
  obtain ⟨y0,y1,y2,rfl⟩ : ∃ y0 y1 y2,xs = [y0,y1,y2] := by
    match xs,hxl with
    | [y0,y1,y2],_ => exact ⟨y0,y1,y2,rfl⟩
  have e0 : DataW.trod enc Tryz.prog w 0 (fun _ => true) held n 9 [c0] = some y0 := hf 0 _ rfl
  have e1 : DataW.trod enc Tryz.prog w 0 (fun _ => true) held n 9 [c1] = some y1 := hf 1 _ rfl
  have e2 : DataW.trod enc Tryz.prog w 0 (fun _ => true) held n 9 [c2] = some y2 := hf 2 _ rfl
  have w0 : WB 9 y0.1 := hW.field Tryz.underlying48 (j := 0) rfl rfl
  have w1 : WB 9 y1.1 := hW.field Tryz.underlying48 (j := 1) rfl rfl
  have w2 : WB 9 y2.1 := hW.field Tryz.underlying48 (j := 2) rfl rfl
  obtain ⟨⟨⟨s0⟩⟩,q0,rfl,-⟩ := DataW.trod_string Tryz.underlying9 e0
  obtain rfl := (List.cons.inj q0).1
  obtain ⟨⟨⟨s1⟩⟩,q1,rfl,-⟩ := DataW.trod_string Tryz.underlying9 e1
  obtain rfl := (List.cons.inj q1).1
  obtain ⟨⟨⟨s2⟩⟩,q2,rfl,-⟩ := DataW.trod_string Tryz.underlying9 e2
  obtain rfl := (List.cons.inj q2).1
  exact ⟨⟨s0,s1,s2⟩,fun β => by simp [mc,conc],w0.1.str,w1.1.str,w2.1.str⟩
theorem Rs.bs {l m : List (Bt × Res)} {x : SV} {L : List Bytes} (h : Rs (bsL l) x L) : Rs (bsL (l ++ m)) x L := h.ro (bsL_ro l m)
set_option maxRecDepth 20000 in
theorem open_doc (M : Nat) {l : List (Bt × Res)} (hl : OpenL w l) (cs : List Value) (x : DataW H × List MemPlace) (h : DataW.trod enc Tryz.prog w 0 (fun _ => true) held M 34 cs = some x) (hW : WB 34 x.1) :
    ∃ (ls : List (Bt × Res)) (dc : List SV) (D : Docm),OpenL w (l ++ ls) ∧ (∀ β,Ext β (l ++ ls) → cs = dc.map (conc β)) ∧ DocR (bsL (l ++ ls)) dc D ∧ DocB D := by
  obtain ⟨xs,n,rfl,rfl,hlen,hxl,hf⟩ := DataW.trod_struct Tryz.underlying34 h
  have hC : Tryz.prog.cellsOf 34 = 5 := by kernel_rfl
  rw [hC] at hlen
  obtain ⟨c0,c1,c2,c3,c4,rfl⟩ : ∃ c0 c1 c2 c3 c4,cs = [c0,c1,c2,c3,c4] := by
    match cs,hlen with
    | [c0,c1,c2,c3,c4],_ => exact ⟨c0,c1,c2,c3,c4,rfl⟩
  obtain ⟨y0,y1,y2,y3,y4,rfl⟩ : ∃ y0 y1 y2 y3 y4,xs = [y0,y1,y2,y3,y4] := by
    match xs,hxl with
    | [y0,y1,y2,y3,y4],_ => exact ⟨y0,y1,y2,y3,y4,rfl⟩
  have e0 : DataW.trod enc Tryz.prog w 0 (fun _ => true) held n 9 [c0] = some y0 := hf 0 _ rfl
  have e1 : DataW.trod enc Tryz.prog w 0 (fun _ => true) held n 22 [c1] = some y1 := hf 1 _ rfl
  have e2 : DataW.trod enc Tryz.prog w 0 (fun _ => true) held n 22 [c2] = some y2 := hf 2 _ rfl
  have e3 : DataW.trod enc Tryz.prog w 0 (fun _ => true) held n 31 [c3] = some y3 := hf 3 _ rfl
  have e4 : DataW.trod enc Tryz.prog w 0 (fun _ => true) held n 32 [c4] = some y4 := hf 4 _ rfl
  have w0 : WB 9 y0.1 := hW.field Tryz.underlying34 (j := 0) rfl rfl
  have w1 : WB 22 y1.1 := hW.field Tryz.underlying34 (j := 1) rfl rfl
  have w2 : WB 22 y2.1 := hW.field Tryz.underlying34 (j := 2) rfl rfl
  have w3 : WB 31 y3.1 := hW.field Tryz.underlying34 (j := 3) rfl rfl
  have w4 : WB 32 y4.1 := hW.field Tryz.underlying34 (j := 4) rfl rfl
  obtain ⟨⟨⟨t⟩⟩,q0,rfl,-⟩ := DataW.trod_string Tryz.underlying9 e0
  obtain rfl := (List.cons.inj q0).1
  obtain ⟨l1,xa,A,g1,g2,g3,-,g5,g6⟩ := open_strs hl e1 w1.1
  obtain ⟨l2,xc,C,k1,k2,k3,-,k5,k6⟩ := open_strs g1 e2 w2.1
  have hM : Tryz.prog.cellsOf 48 = 3 := by kernel_rfl
  have hS : Tryz.prog.cellsOf 46 = 3 := by kernel_rfl
  obtain ⟨l3,xm,Ms,m1,m2,m3,m4,m5,m6⟩ := open_rowsN (ρ := Mtm) mc (fun _ r => r.id.length ≤ 140737488355328 ∧ r.type.length ≤ 140737488355328 ∧ r.ctrl.length ≤ 140737488355328) (fun _ _ _ h => h) (s := 3) (m := n) (by omega) Tryz.underlying31 hM (WB 48) (fun l hl cs x hx hw => by
    obtain ⟨r,r1,r2⟩ := trod_meth cs x hx hw
    exact ⟨[],r,by rw [List.append_nil]; exact hl,fun β _ => r1 β,r2⟩) k1 (Nat.le_succ n) e3 (fun L sp e => by rw [e] at w3; exact w3.elem Tryz.underlying31)
  obtain ⟨l4,xs,Q,s1,s2,s3,s4,s5,s6⟩ := open_rowsN (ρ := Sq) sqc (fun l r => SqOk (bsL l) r ∧ r.m.id.length ≤ 140737488355328 ∧ (r.m.types.length ≤ 1100000 ∧ ∀ s ∈ r.m.types,s.length ≤ 140737488355328) ∧ (r.m.ends.length ≤ 1100000 ∧ ∀ s ∈ r.m.ends,s.length ≤ 140737488355328)) (fun _ _ _ h => ⟨h.1.ro (bsL_ro _ _),h.2⟩) (s := 3) (m := n) (by omega) Tryz.underlying32 hS (WB 46) (fun l hl cs x hx hw => open_service hl cs x hx hw) m1 (Nat.le_succ n) e4 (fun L sp e => by rw [e] at w4; exact w4.elem Tryz.underlying32)
  have a1 : l ++ l1 ++ l2 ++ l3 ++ l4 = l ++ (l1 ++ l2 ++ l3 ++ l4) := by simp
  refine ⟨l1 ++ l2 ++ l3 ++ l4,[.str t,xa,xc,xm,xs],⟨t,A,C,Ms,Q.map Sq.m⟩,by rw [← a1]; exact s1,fun β hβ => ?_,?_,w0.1.str,⟨w1.len g6,g5⟩,⟨w2.len k6,k5⟩,w3.len m6,by rw [List.length_map]; exact w4.len s6,m5,fun s hs => ?_⟩
  · rw [← a1] at hβ
    rw [g2 β hβ.left.left.left,k2 β hβ.left.left,m3 β hβ.left,s3 β hβ]
    simp [conc]
  · rw [← a1]
    refine ⟨xa,xc,xm,xs,Q,rfl,g3.bs.bs.bs,k3.bs.bs,?_,s4,fun q hq => (s5 q hq).1,rfl⟩
    rcases m4 with m4 | ⟨i,h1,h2⟩
    · exact .inl m4
    · exact .inr ⟨i,h1,bsL_ro _ _ _ _ _ _ _ h2⟩
  · obtain ⟨q,hq,rfl⟩ := List.mem_map.1 hs
    exact (s5 q hq).2
end
end Go.Proofs.YtejfjmcjicpodaaGreatDoor
/- The walks of ref16: With,some,Array,members. -/
set_option linter.all false
set_option maxRecDepth 20000
namespace Go.Proofs.YtejfjmcjicpodaaGreatDoor
open Go Vc Go.RowKit Wf
set_option linter.unusedSimpArgs false
theorem gone_pick {bs b : List Res} {r : SV} (hk : Kp bs b) (hr : within bs.length r = true) (n : Nat) {P : SV → List Res → Prop} (hP : P r (bs ++ List.replicate n .gone)) :
    ∃ (ρ : Nat → Nat) (Xs : List Res) (r2 : SV),Kp bs b ∧ (∀ k,k < bs.length → ρ k = k) ∧ (∀ q X,Xs[q]? = some X → Kept bs b ρ (bs.length + Xs.length) (bs.length + q) X) ∧ r = ren ρ r2 ∧ within (bs.length + Xs.length) r2 = true ∧ P r2 (bs ++ Xs) :=
  ⟨id,List.replicate n .gone,r,hk,fun _ _ => rfl,fun q X h => .inl (by
    have := (List.getElem?_eq_some_iff.1 h)
    obtain ⟨h1,h2⟩ := this
    rw [List.getElem_replicate] at h2
    exact h2.symm),(ren_within (fun _ _ => rfl) _ hr).symm,within_up (by omega) hr,hP⟩
def txt (s : Bytes) : Tv := ⟨5,s,.nils,.nils⟩
def ArrR (bs : List Res) (L : List Bytes) (r : SV) (b : List Res) : Prop := ∃ y,Kp bs b ∧ r = .agg (tv ⟨6,[],.nils,y⟩) ∧ ((y = .nils ∧ L = []) ∨ ∃ q m,0 < L.length ∧ y = .o q L.length ∧ bs.length ≤ q ∧ b[q]? = some (.own ((L.map txt).flatMap tv) 25 4 L.length m))
theorem txt_snoc {L : List Bytes} {k : Nat} (h : k < L.length) : ((L.take (k + 1)).map txt).flatMap tv = ((L.take k).map txt).flatMap tv ++ [.int .i64 5,.str L[k],.nils,.nils] := by
  rw [List.take_succ_eq_append_getElem h,List.map_append,List.flatMap_append]
  rfl
set_option maxHeartbeats 4000000 in
theorem sc_ArrR {bs : List Res} {x : SV} {L : List Bytes} (hx : Rs bs x L) (hL : L.length ≤ 1100000) : SC Tryz.V 53 [x] bs (ArrR bs L) := by
  have hxw := hx.within
  have p1 := p_r16_Text
  refine sc_of 3000 Tryz.func53 rfl Tryz.ntmps53 Tryz.results53 Tryz.call53 (by simp) (fun β β' hb => concL_within bs.length _ (by simp [within,within.withinL,hxw]) β β' hb) ?_
  unfold tv at p1
  rcases hx with ⟨rfl,rfl⟩ | ⟨j,rfl,hj⟩
  · simp only [lawG,↓Xn,↓Xo,↓Xg,↓Xd,↓Xe,↓Xf,Tryz.VΓ,Tryz.Γs,Xp,Xi,Nat.reduceAdd,Nat.reduceSub,Nat.reduceLT,Nat.reduceLeDiff,reduceIte,reduceCtorEq,Nat.reduceEqDiff,implies_true,forall_const,lawV,lawA,beq_self_eq_true,bne_self_eq_false,Int.reduceBEq,Int.reduceBNe,Int.reduceLT,Int.reduceLE]
    refine loopV_mk (fun σ => lk 8 σ.t = some (.int .i64 0) ∧ lk 9 σ.t = some (.int .i64 0) ∧ lk 2 σ.t = some (.p bs.length 0) ∧ lk 3 σ.t = some (.p (bs.length + 1) 0) ∧ σ.b = bs ++ [.cells [.int .i64 0,.str [],.nils,.nils] 25 true,.cells [.int .i64 6,.str [],.nils,.nils] 25 true]) (fun _ => 1) ⟨rfl,rfl,rfl,rfl,rfl⟩ ?_
    rintro ⟨t,b⟩ ⟨h8,h9,h2,h3,hb⟩
    simp only at h8 h9 h2 h3 hb
    subst hb
    simp only [lawG,↓Xn,↓Xo,↓Xg,↓Xd,↓Xe,↓Xf,Tryz.VΓ,Tryz.Γs,Xp,Xi,Nat.reduceAdd,Nat.reduceSub,Nat.reduceLT,Nat.reduceLeDiff,reduceIte,reduceCtorEq,Nat.reduceEqDiff,implies_true,forall_const,lawV,lawA,beq_self_eq_true,bne_self_eq_false,Int.reduceBEq,Int.reduceBNe,Int.reduceLT,Int.reduceLE,h8,h9,h2,h3]
    exact ⟨.nils,(Kp.refl bs).app _,rfl,.inl ⟨rfl,rfl⟩⟩
  · have hjl := (List.getElem?_eq_some_iff.1 hj).1
    simp only [lawG,↓Xn,↓Xo,↓Xg,↓Xd,↓Xe,↓Xf,Tryz.VΓ,Tryz.Γs,Xp,Xi,Nat.reduceAdd,Nat.reduceSub,Nat.reduceLT,Nat.reduceLeDiff,reduceIte,reduceCtorEq,Nat.reduceEqDiff,implies_true,forall_const,lawV,lawA,beq_self_eq_true,bne_self_eq_false,Int.reduceBEq,Int.reduceBNe,Int.reduceLT,Int.reduceLE]
    refine loopV_mk (fun σ => ∃ (k : Nat) (y : SV),k ≤ L.length ∧ lk 7 σ.t = some (.o j L.length) ∧ lk 8 σ.t = some (.int .i64 L.length) ∧ lk 9 σ.t = some (.int .i64 k) ∧ lk 2 σ.t = some (.p bs.length 0) ∧ lk 3 σ.t = some (.p (bs.length + 1) 0) ∧ Kp bs σ.b ∧ σ.b[bs.length]? = some (.cells [.int .i64 0,.str [],.nils,.nils] 25 true) ∧ σ.b[bs.length + 1]? = some (.cells [.int .i64 6,.str [],.nils,y] 25 true) ∧
      ((y = .nils ∧ k = 0) ∨ ∃ q,0 < k ∧ y = .o q k ∧ bs.length + 1 < q ∧ σ.b[q]? = some (.own (((L.take k).map txt).flatMap tv) 25 4 k true))) (fun σ => L.length - lkI 9 σ) ⟨0,.nils,by omega,rfl,rfl,rfl,rfl,rfl,(Kp.refl bs).app _,app_at0 _ _,app_at _ _ 1,.inl ⟨rfl,rfl⟩⟩ ?_
    rintro ⟨t,b⟩ ⟨k,y,hk,h7,h8,h9,h2,h3,hkp,hb0,hb1,hy⟩
    simp only at h7 h8 h9 h2 h3 hkp hb0 hb1 hy
    rw [lkI_eq h9]
    have hb1l := (List.getElem?_eq_some_iff.1 hb1).1
    have hbj := hkp.at hj
    by_cases hlt : k < L.length
    · have hlt2 : decide ((k : Int) < L.length) = true := decide_eq_true (by omega)
      have hkt : (L.map SV.str)[k * 1]? = some (.str L[k]) := by simp [hlt]
      have hset : ∀ (l : List Res) X,(b ++ l).set (bs.length + 1) X = b.set (bs.length + 1) X ++ l := fun l X => app_setL hb1l l X
      have hsn := txt_snoc hlt
      rcases hy with ⟨rfl,rfl⟩ | ⟨q,hk0,rfl,hq,hbq⟩
      · simp only [lawG,↓Xn,↓Xo,↓Xg,↓Xd,↓Xe,↓Xf,Tryz.VΓ,Tryz.Γs,Xp,Xi,Nat.reduceAdd,Nat.reduceSub,Nat.reduceLT,Nat.reduceLeDiff,reduceIte,reduceCtorEq,Nat.reduceEqDiff,implies_true,forall_const,lawV,lawA,beq_self_eq_true,bne_self_eq_false,Int.reduceBEq,Int.reduceBNe,Int.reduceLT,Int.reduceLE,h7,h8,h9,h2,h3,hbj,hb1,at_old hb1,hkt,hlt2,hset]
        refine ⟨by omega,by simp; omega,?_⟩
        (refine callD_pc (p1 _) ?_; simp only [lawG,↓Xn,↓Xo,↓Xg,↓Xd,↓Xe,↓Xf,Tryz.VΓ,Tryz.Γs,Xp,Xi,Nat.reduceAdd,Nat.reduceSub,Nat.reduceLT,Nat.reduceLeDiff,reduceIte,reduceCtorEq,Nat.reduceEqDiff,implies_true,forall_const,lawV,lawA,beq_self_eq_true,bne_self_eq_false,Int.reduceBEq,Int.reduceBNe,Int.reduceLT,Int.reduceLE,h7,h8,h9,h2,h3,at_old hb1,hset])
        have z1 : (b.length = bs.length + 1) = False := eq_false (by omega)
        have z2 : (b.length + 1 = bs.length + 1) = False := eq_false (by omega)
        refine ⟨by omega,⟨by unfold maxLen; omega,by omega⟩,?_,by omega,⟨1,.o (b.length + 1) 1,by omega,rfl,(hkp.set (by omega) _).app _,at_old (get_setN hb0 (by omega) _) _,get_setS hb1l _ _,.inr ⟨b.length + 1,by omega,rfl,by omega,?_⟩⟩,?_⟩
        · refine OkD_ren (fun n => if n = bs.length + 1 then 0 else n - b.length + 2) ?_
          simp only [List.map_cons,List.map_nil,renRk,renT,Nat.add_sub_cancel_left,Nat.sub_self,z1,z2,eq_self,if_true,if_false]
          exact OkD_fast (by kernel_rfl)
        · rw [app_atL (by simp),hsn]; rfl
        · rw [lkI_eq (show lk 9 _ = some (.int .i64 ((1 : Nat) : Int)) from rfl)]; omega
      · have hql := (List.getElem?_eq_some_iff.1 hbq).1
        have hsq : ∀ (l : List Res) X,(b ++ l).set q X = b.set q X ++ l := fun l X => app_setL hql l X
        simp only [lawG,↓Xn,↓Xo,↓Xg,↓Xd,↓Xe,↓Xf,Tryz.VΓ,Tryz.Γs,Xp,Xi,Nat.reduceAdd,Nat.reduceSub,Nat.reduceLT,Nat.reduceLeDiff,reduceIte,reduceCtorEq,Nat.reduceEqDiff,implies_true,forall_const,lawV,lawA,beq_self_eq_true,bne_self_eq_false,Int.reduceBEq,Int.reduceBNe,Int.reduceLT,Int.reduceLE,h7,h8,h9,h2,h3,hbj,hb1,at_old hb1,at_old hbq,hkt,hlt2,hset,hsq]
        refine ⟨by omega,by simp; omega,?_⟩
        have hq1 : q ≠ bs.length + 1 := by omega
        have hset2 : ∀ (l : List Res) Y X,(b.set q Y ++ l).set (bs.length + 1) X = (b.set q Y).set (bs.length + 1) X ++ l := fun l Y X => app_setL (by simpa using hb1l) l X
        have hbq1 := fun Y => at_old (get_setN hb1 hq1 Y)
        (refine callD_pc (p1 _) ?_; simp only [lawG,↓Xn,↓Xo,↓Xg,↓Xd,↓Xe,↓Xf,Tryz.VΓ,Tryz.Γs,Xp,Xi,Nat.reduceAdd,Nat.reduceSub,Nat.reduceLT,Nat.reduceLeDiff,reduceIte,reduceCtorEq,Nat.reduceEqDiff,implies_true,forall_const,lawV,lawA,beq_self_eq_true,bne_self_eq_false,Int.reduceBEq,Int.reduceBNe,Int.reduceLT,Int.reduceLE,h7,h8,h9,h2,h3,at_old hb1,at_old hbq,hset,hsq,hset2,hbq1])
        have z1 : (b.length = bs.length + 1) = False := eq_false (by omega)
        have z2 : (b.length + 1 = bs.length + 1) = False := eq_false (by omega)
        have z3 : (q = bs.length + 1) = False := eq_false (by omega)
        have z4 : (b.length = q) = False := eq_false (by omega)
        have z5 : (b.length + 1 = q) = False := eq_false (by omega)
        refine ⟨by omega,⟨by unfold maxLen; omega,by omega⟩,?_,by omega,⟨k + 1,.o (b.length + 1) (k + 1),by omega,rfl,((hkp.set (by omega) _).set (by omega) _).app _,at_old (get_setN (get_setN hb0 (by omega) _) (by omega) _) _,get_setS (by simpa using hb1l) _ _,.inr ⟨b.length + 1,by omega,rfl,by omega,?_⟩⟩,?_⟩
        · refine OkD_ren (fun n => if n = bs.length + 1 then 0 else if n = q then 1 else n - b.length + 2) ?_
          simp only [List.map_cons,List.map_nil,renRk,renT,Nat.add_sub_cancel_left,Nat.sub_self,z1,z2,z3,z4,z5,eq_self,if_true,if_false]
          exact OkD_fast (by kernel_rfl)
        · rw [app_atL (by simp),hsn]; rfl
        · rw [lkI_eq (show lk 9 _ = some (.int .i64 ((k + 1 : Nat) : Int)) from rfl)]; omega
    · have hlt2 : decide ((k : Int) < L.length) = false := decide_eq_false (by omega)
      have hb0l := (List.getElem?_eq_some_iff.1 hb0).1
      have hs0 : ∀ X,(b.set bs.length X)[bs.length]? = some X := fun X => List.getElem?_set_self hb0l
      have hyo : one y = true := by rcases hy with ⟨rfl,-⟩ | ⟨q,-,rfl,-⟩ <;> rfl
      obtain rfl : k = L.length := by omega
      simp only [lawG,↓Xn,↓Xo,↓Xg,↓Xd,↓Xe,↓Xf,Tryz.VΓ,Tryz.Γs,Xp,Xi,Nat.reduceAdd,Nat.reduceSub,Nat.reduceLT,Nat.reduceLeDiff,reduceIte,reduceCtorEq,Nat.reduceEqDiff,implies_true,forall_const,lawV,lawA,beq_self_eq_true,bne_self_eq_false,Int.reduceBEq,Int.reduceBNe,Int.reduceLT,Int.reduceLE,h8,h9,h2,h3,hlt2,hb0,hb1,hs0,hyo]
      refine ⟨y,hkp.set (Nat.le_refl _) _,rfl,?_⟩
      rcases hy with ⟨rfl,h0⟩ | ⟨q,hk0,rfl,hq,hbq⟩
      · exact .inl ⟨rfl,List.length_eq_zero_iff.1 h0⟩
      · rw [List.take_length] at hbq
        exact .inr ⟨q,true,hk0,rfl,by omega,get_setN hbq (by omega) _⟩
end Go.Proofs.YtejfjmcjicpodaaGreatDoor
/- diddoc.Encode,walked. -/
set_option linter.all false
set_option maxRecDepth 20000
namespace Go.Proofs.YtejfjmcjicpodaaGreatDoor
open Go Vc Go.RowKit Wf
set_option linter.unusedSimpArgs false
theorem rm_len {b : List Res} {x : SV} {M : List Mtm} (h : Rm b x M) (e : TypeId) : lenS (.slice e) x = some (.int .i64 M.length) := by
  rcases h with ⟨rfl,rfl⟩ | ⟨j,rfl,-⟩ <;> rfl
theorem rq_len {b : List Res} {x : SV} {M : List Sq} (h : Rq b x M) (e : TypeId) : lenS (.slice e) x = some (.int .i64 M.length) := by
  rcases h with ⟨rfl,rfl⟩ | ⟨j,rfl,-⟩ <;> rfl
structure EL (bs : List Res) (dc : List SV) (qk qi : Nat) (Ks : List Bytes) (Ls : List Tv) (Js : List Jv) (q5 q6 : Nat) (y5 y6 : SV) (M5 M6 : List Tv) (t : List (Nat × SV)) (b : List Res) : Prop where
  es : ES bs dc qk qi Ks Ls Js t b
  l4 : lk 4 t = some (.fn (.func 48) [.p (bs.length + 4) 0])
  l5 : lk 5 t = some (.p q5 0)
  l6 : lk 6 t = some (.p q6 0)
  h5 : bs.length + 4 < q5
  h6 : q5 < q6
  b5 : b[q5]? = some (.cells [.int .i64 6,.str [],.nils,y5] 25 true)
  b6 : b[q6]? = some (.cells [.int .i64 6,.str [],.nils,y6] 25 true)
  r5 : RW (bs.length + 1) qk qi b y5 M5
  r6 : RW (bs.length + 1) qk qi b y6 M6
  ne : ∀ i n m,y5 = .o i n → y6 ≠ .o i m
def SL4 (t t' : List (Nat × SV)) : Prop := SE t t' ∧ lk 4 t' = lk 4 t ∧ lk 5 t' = lk 5 t ∧ lk 6 t' = lk 6 t
section
variable {bs : List Res} {dc : List SV} {qk qi : Nat} {Ks : List Bytes} {Ls : List Tv} {Js : List Jv} {q5 q6 : Nat} {y5 y6 : SV} {M5 M6 : List Tv} {t t' : List (Nat × SV)} {b b' : List Res}
theorem EL.mv (h : EL bs dc qk qi Ks Ls Js q5 q6 y5 y6 M5 M6 t b) (e : SL4 t t') : EL bs dc qk qi Ks Ls Js q5 q6 y5 y6 M5 M6 t' b := { h with es := h.es.mv e.1,l4 := e.2.1.trans h.l4,l5 := e.2.2.1.trans h.l5,l6 := e.2.2.2.trans h.l6 }
theorem RW.ne {n : Nat} {y : SV} {M : List Tv} (h : RW n qk qi b y M) {i k : Nat} (e : y = .o i k) : i ≠ qi ∧ i ≠ qk ∧ n < i ∧ ∃ c e s z,b[i]? = some (.own c e s z true) := by
  rcases h with ⟨rfl,-⟩ | ⟨q,h1,rfl,h3,h4,h5,h6⟩
  · cases e
  · cases e; exact ⟨h3,h4,h5,_,_,_,_,h6⟩
theorem RW.nec {n : Nat} {y : SV} {M : List Tv} (h : RW n qk qi b y M) {i : Nat} {c : List SV} {T : TypeId} {m : Bool} (hi : b[i]? = some (.cells c T m)) (k : Nat) : y ≠ .o i k := fun e => by
  obtain ⟨-,-,-,_,_,_,_,h1⟩ := h.ne e
  rw [hi] at h1; cases h1
theorem RW.ro {n : Nat} {y : SV} {M : List Tv} (h : RW n qk qi b y M) {q5 : Nat} {c : List SV} {T : TypeId} {m : Bool} (h5 : b[q5]? = some (.cells c T m)) (hkeep : ∀ i r,b[i]? = some r → i ≠ q5 → (∀ n,y ≠ .o i n) → b'[i]? = some r) : Ro b b' := fun i c e s n hi => hkeep i _ hi (by rintro rfl; rw [h5] at hi; cases hi) (fun k e => by
  obtain ⟨-,-,-,_,_,_,_,h1⟩ := h.ne e
  rw [hi] at h1; cases h1)
theorem ES.re {n : Nat} (h : ES bs dc qk qi Ks Ls Js t b) {y : SV} {M : List Tv} (hy : RW (bs.length + 1) qk qi b y M) {q5 : Nat} {c : List SV} {T : TypeId} {m : Bool} (h5 : b[q5]? = some (.cells c T m)) (hq5 : bs.length + 4 < q5) (hl : b.length ≤ b'.length) (hkeep : ∀ i r,b[i]? = some r → i ≠ q5 → (∀ n,y ≠ .o i n) → b'[i]? = some r) : ES bs dc qk qi Ks Ls Js t b' := by
  have hqk : qk ≠ q5 := by rintro rfl; rw [h.ob.bk] at h5; cases h5
  have hqi : qi ≠ q5 := by rintro rfl; rw [h.ob.bi] at h5; cases h5
  refine { h with kp := ⟨Nat.le_trans h.kp.1 hl,fun i hx => ?_⟩,b0 := hkeep _ _ h.b0 (by omega) (hy.nec h.b0),b1 := hkeep _ _ h.b1 (by omega) (hy.nec h.b1),ob := ⟨hkeep _ _ h.ob.bq (by omega) (hy.nec h.ob.bq),hkeep _ _ h.ob.bk hqk (fun k e => (hy.ne e).2.1 rfl),hkeep _ _ h.ob.bi hqi (fun k e => (hy.ne e).1 rfl)⟩,js := h.js.ro (hy.ro h5 hkeep) }
  have e := h.kp.2 i hx
  rw [List.getElem?_eq_getElem hx] at e ⊢
  exact hkeep i _ e (by omega) (fun k e => by have := (hy.ne e).2.2.1; omega)
theorem EL.re5 (h : EL bs dc qk qi Ks Ls Js q5 q6 y5 .nils M5 [] t b) (hl : b.length ≤ b'.length) (hkeep : ∀ i r,b[i]? = some r → i ≠ q5 → (∀ n,y5 ≠ .o i n) → b'[i]? = some r) {y : SV} {M : List Tv} (hb : b'[q5]? = some (.cells [.int .i64 6,.str [],.nils,y] 25 true)) (hr : RW (bs.length + 1) qk qi b' y M) : EL bs dc qk qi Ks Ls Js q5 q6 y .nils M [] t b' :=
  { h with es := ES.re (n := 0) h.es h.r5 h.b5 h.h5 hl hkeep,b5 := hb,b6 := hkeep _ _ h.b6 (by have := h.h6; omega) (h.r5.nec h.b6),r5 := hr,r6 := .inl ⟨rfl,rfl⟩,ne := fun i n m _ => by intro e; cases e }
theorem EL.re6 (h : EL bs dc qk qi Ks Ls Js q5 q6 y5 y6 M5 M6 t b) (hl : b.length ≤ b'.length) (hkeep : ∀ i r,b[i]? = some r → i ≠ q6 → (∀ n,y6 ≠ .o i n) → b'[i]? = some r) {y : SV} {M : List Tv} (hb : b'[q6]? = some (.cells [.int .i64 6,.str [],.nils,y] 25 true)) (hr : RW (bs.length + 1) qk qi b' y M) (hne : ∀ i n,y = .o i n → b.length ≤ i) : EL bs dc qk qi Ks Ls Js q5 q6 y5 y M5 M t b' := by
  have h6 := h.h6
  refine { h with es := ES.re (n := 0) h.es h.r6 h.b6 (by have := h.h5; omega) hl hkeep,b5 := hkeep _ _ h.b5 (by omega) (h.r6.nec h.b5),b6 := hb,r5 := ?_,r6 := hr,ne := fun i n m e e2 => ?_ }
  · rcases h.r5 with e | ⟨q,g1,rfl,g3,g4,g5,g6⟩
    · exact .inl e
    · exact .inr ⟨q,g1,rfl,g3,g4,g5,hkeep _ _ g6 (by rintro rfl; rw [h.b6] at g6; cases g6) (h.ne q _ · rfl)⟩
  · obtain ⟨-,-,-,_,_,_,_,h1⟩ := h.r5.ne e
    have := (List.getElem?_eq_some_iff.1 h1).1
    have := hne i m e2
    omega
end
theorem tjs_cons {b : List Res} {j : Jv} {v : Tv} {J : List Jv} {L : List Tv} (h : TJ b j v) (k : TJs b J L) : TJs b (j :: J) (v :: L) := by rw [TJs]; exact ⟨v,L,rfl,h,k⟩
theorem tjs_nil (b : List Res) : TJs b [] [] := by rw [TJs]
theorem keys_app {K : List Bytes} {key : Bytes} {L : List Jv} (h : ∀ s ∈ K,s.length ≤ 140737488355328) (hk : key.length ≤ 140737488355328) : ∀ s ∈ K ++ memK key L,s.length ≤ 140737488355328 := fun s hs => by
  rcases List.mem_append.1 hs with hs | hs
  · exact h s hs
  · unfold memK at hs
    split at hs
    · cases hs
    · rw [List.mem_singleton] at hs; rw [hs]; exact hk
theorem Ro.preD {b b' : List Res} (h : Ro b b') (hl : b'.length = b.length) (l l2 : List Res) : Ro (b ++ l) (b' ++ (l ++ l2)) := fun j c e s n hj => by
  rcases Nat.lt_or_ge j b.length with h1 | h1
  · rw [List.getElem?_append_left h1] at hj
    exact at_old (h _ _ _ _ _ hj) _
  · rw [List.getElem?_append_right h1] at hj
    rw [List.getElem?_append_right (by omega),hl,List.getElem?_append_left (List.getElem?_eq_some_iff.1 hj).1]
    exact hj
theorem ES.dull {bs : List Res} {dc : List SV} {qk qi : Nat} {Ks : List Bytes} {Ls : List Tv} {Js : List Jv} {t : List (Nat × SV)} {b : List Res} (h : ES bs dc qk qi Ks Ls Js t b) {y : SV} {M : List Tv} (hy : RW (bs.length + 1) qk qi b y M) {J : List Jv} (hJ : TJs b J M) (hl : M.length ≤ 1100000) :
    ∃ b1,(∀ f args R,SC Tryz.V f args b1 R → SC Tryz.V f args b R) ∧ ES bs dc qk qi Ks Ls Js t b1 ∧ TJ b1 (.mk 6 [] [] J) ⟨6,[],.nils,y⟩ ∧ b1.length = b.length ∧ ∀ i r,b[i]? = some r → (∀ n,y ≠ .o i n) → b1[i]? = some r := by
  have hlen := hJ.len
  rcases hy with ⟨rfl,rfl⟩ | ⟨q,g1,rfl,g3,g4,g5,g6⟩
  · obtain rfl : J = [] := List.length_eq_zero_iff.1 (by simpa using hlen.symm)
    exact ⟨b,fun _ _ _ h => h,h,TJ.mk' rfl rfl (by simp [Jv.t]) (.inl ⟨rfl,rfl⟩) (by simp [Jv.K]) (by simp [Jv.K]) (by simp [Jv.L]) ⟨[],.inl ⟨rfl,rfl⟩,tjs_nil b⟩,rfl,fun _ _ h _ => h⟩
  · refine ⟨b.set q (.own (M.flatMap tv) 25 4 M.length false),fun _ _ _ h => sc_dull g6 h,h.row g6 g3 g4 (by omega) _,TJ.mk' rfl rfl (by simp [Jv.t]) (.inl ⟨rfl,rfl⟩) (by simp [Jv.K]) (by simp [Jv.K]) (by simp only [Jv.L]; omega) ⟨M,.inr ⟨q,rfl,List.getElem?_set_self (List.getElem?_eq_some_iff.1 g6).1⟩,hJ.ro ((Ro.refl b).setT g6 _)⟩,by simp,fun i r hi hn => get_setN hi (fun e => hn M.length (by rw [e])) _⟩
theorem TJ.three {b : List Res} {p q : Nat} {K : List Bytes} {Js : List Jv} {Ls : List Tv} (hK : b[p]? = some (.own (K.map SV.str) 9 1 3 false)) (hK3 : K.length = 3) (hKs : ∀ s ∈ K,s.length ≤ 140737488355328) (hL : b[q]? = some (.own (Ls.flatMap tv) 25 4 3 false)) (hJ3 : Js.length = 3) (hj : TJs b Js Ls) : TJ b (.mk 7 [] K Js) ⟨7,[],.o p 3,.o q 3⟩ :=
  TJ.mk' rfl rfl (by simp [Jv.t]) (.inr ⟨p,by simp only [Jv.K,hK3],by simp only [Jv.K,hK3]; exact hK⟩) (by simp only [Jv.K,hK3]; omega) hKs (by simp only [Jv.L,hJ3]; omega) ⟨Ls,.inr ⟨q,by rw [hj.len,hJ3],by rw [hj.len,hJ3]; exact hL⟩,hj⟩
set_option maxHeartbeats 16000000 in
theorem sc_dd_Encode {bs : List Res} {dc : List SV} {D : Docm} (hD : DocR bs dc D) (hB : DocB D) : SC Tryz.V 17 [.agg dc] bs (fun r b => ∃ v,r = .agg (tv v) ∧ Kp bs b ∧ TJ b (encM D) v) := by
  refine SC.dimAll ?_
  obtain ⟨xa,xc,xm,xs,Q,rfl,d1,d2,d3,d4,d5,d6⟩ := hD
  have hone := DocR.onesB d1 d2 d3 d4
  have w1 := d1.within
  have w2 := d2.within
  have w3 : Vc.within bs.length xm = true := by
    rcases d3 with ⟨rfl,-⟩ | ⟨j,rfl,h2⟩
    · rfl
    · have := (List.getElem?_eq_some_iff.1 h2).1
      simp [Vc.within,this]
  have w4 : Vc.within bs.length xs = true := by
    rcases d4 with ⟨rfl,-⟩ | ⟨j,rfl,h2⟩
    · rfl
    · have := (List.getElem?_eq_some_iff.1 h2).1
      simp [Vc.within,this]
  have c1 := d1.one
  have c2 := d2.one
  have c3 := d3.one
  have c4 := d4.one
  refine sc_ofP (fun n => if n = 14 then .ord [0,1,3,4,5,6,7,8,9,10,11,2,12,13,14,15,16,17] else .ord []) 3000 Tryz.func17 rfl Tryz.ntmps17 Tryz.results17 Tryz.call17 (by simp) (fun β β' hb => concL_within bs.length _ (by simp [within,within.withinL,w1,w2,w3,w4]) β β' hb) ?_
  refine vcS_cutS 2900 (fun σ => lk 1 σ.t = some (.p bs.length 0) ∧ lk 2 σ.t = some (.p (bs.length + 1) 0) ∧ σ.b = bs ++ [.cells [.str D.id,xa,xc,xm,xs] 34 true,.cells [.int .i64 0,.str [],.nils,.nils] 25 true]) ?_ (fun k' hk' => ?_)
  rotate_left
  · simp only [lawG,↓Xn,↓Xo,↓Xg,↓Xd,↓Xe,↓Xf,Tryz.VΓ,Tryz.Γs,Xp,Xi,Nat.reduceAdd,Nat.reduceSub,Nat.reduceLT,Nat.reduceLeDiff,reduceIte,reduceCtorEq,Nat.reduceEqDiff,implies_true,forall_const,lawV,lawA,beq_self_eq_true,bne_self_eq_false,Int.reduceBEq,Int.reduceBNe,Int.reduceLT,Int.reduceLE,hone]
    exact hk' _ _ ⟨rfl,rfl,rfl⟩
  rintro m ⟨t,b⟩ ⟨h1,h2,rfl⟩
  simp only at h1 h2
  refine vcS_cutS 2800 (fun σ => ∃ Ls,ES bs [.str D.id,xa,xc,xm,xs] (bs.length + 2) (bs.length + 3) [([105,100] : List UInt8)] Ls [Jv.str D.id] σ.t σ.b) ?_ (fun k' hk' => ?_)
  rotate_left
  · have p1 := p_dd_text D.id
    simp only [lawG,↓Xn,↓Xo,↓Xg,↓Xd,↓Xe,↓Xf,Tryz.VΓ,Tryz.Γs,Xp,Xi,Nat.reduceAdd,Nat.reduceSub,Nat.reduceLT,Nat.reduceLeDiff,reduceIte,reduceCtorEq,Nat.reduceEqDiff,implies_true,forall_const,lawV,lawA,beq_self_eq_true,bne_self_eq_false,Int.reduceBEq,Int.reduceBNe,Int.reduceLT,Int.reduceLE,h1,h2,hone]
    refine ⟨by decide,callV_pc p1 ?_⟩
    simp only [lawG,↓Xn,↓Xo,↓Xg,↓Xd,↓Xe,↓Xf,Tryz.VΓ,Tryz.Γs,Xp,Xi,Nat.reduceAdd,Nat.reduceSub,Nat.reduceLT,Nat.reduceLeDiff,reduceIte,reduceCtorEq,Nat.reduceEqDiff,implies_true,forall_const,lawV,lawA,beq_self_eq_true,bne_self_eq_false,Int.reduceBEq,Int.reduceBNe,Int.reduceLT,Int.reduceLE]
    refine ⟨by decide,callV_sc (keepW (bs := bs ++ [_,_,_,_]) (x := .agg [.int .i64 7,.str [],.o (bs.length + 2) 1,.o (bs.length + 3) 1]) (by simp [within,within.withinL]) (sc_dd_object (by simp [within]) (by simp [within]) rfl rfl)) ?_⟩
    rintro r b ⟨rfl,rfl⟩
    simp only [lawG,↓Xn,↓Xo,↓Xg,↓Xd,↓Xe,↓Xf,Tryz.VΓ,Tryz.Γs,Xp,Xi,Nat.reduceAdd,Nat.reduceSub,Nat.reduceLT,Nat.reduceLeDiff,reduceIte,reduceCtorEq,Nat.reduceEqDiff,implies_true,forall_const,lawV,lawA,beq_self_eq_true,bne_self_eq_false,Int.reduceBEq,Int.reduceBNe,Int.reduceLT,Int.reduceLE]
    exact hk' _ _ ⟨[⟨5,D.id,.nils,.nils⟩],by simp [lk,h1],by simp [lk,h2],rfl,(Kp.refl bs).app _,app_at0 _ _,app_at _ _ 1,⟨app_at _ _ 4,app_at _ _ 2,app_at _ _ 3⟩,by omega,by omega,by rw [TJs]; exact ⟨_,[],rfl,TJ.text _ _ hB.id,by rw [TJs]⟩⟩
  clear h1 h2
  rintro m ⟨t,b⟩ ⟨Ls,h⟩
  simp only at h
  refine vcS_cutS 2700 (fun σ => ES bs [.str D.id,xa,xc,xm,xs] (bs.length + 2) (bs.length + 3) [([105,100] : List UInt8)] Ls [Jv.str D.id] σ.t σ.b ∧ lk 4 σ.t = some (.fn (.func 48) [.p (bs.length + 4) 0])) ?_ (fun k' hk' => ?_)
  rotate_left
  · have m3 := h.l3
    simp only [lawG,↓Xn,↓Xo,↓Xg,↓Xd,↓Xe,↓Xf,Tryz.VΓ,Tryz.Γs,Xp,Xi,Nat.reduceAdd,Nat.reduceSub,Nat.reduceLT,Nat.reduceLeDiff,reduceIte,reduceCtorEq,Nat.reduceEqDiff,implies_true,forall_const,lawV,lawA,beq_self_eq_true,bne_self_eq_false,Int.reduceBEq,Int.reduceBNe,Int.reduceLT,Int.reduceLE,m3]
    exact hk' _ _ ⟨h.mv (by simp [SE,lk]),rfl⟩
  clear h
  rintro m ⟨t,b⟩ ⟨h,h4⟩
  simp only at h h4
  have hLl := h.js.len
  simp only [List.length_cons,List.length_nil] at hLl
  have e0 : bs.length + 2 = bs.length + 2 := rfl
  generalize bs.length + 2 = qk at h e0
  clear e0
  have e0 : bs.length + 3 = bs.length + 3 := rfl
  generalize bs.length + 3 = qi at h e0
  clear e0
  refine vcS_cutS 2600 (fun σ => ∃ qk qi Ls,ES bs [.str D.id,xa,xc,xm,xs] qk qi ([([105,100] : List UInt8)] ++ memK ([97,108,115,111,75,110,111,119,110,65,115] : List UInt8) (D.also.map Jv.str)) Ls ([Jv.str D.id] ++ memI (D.also.map Jv.str)) σ.t σ.b ∧ lk 4 σ.t = some (.fn (.func 48) [.p (bs.length + 4) 0])) ?_ (fun k' hk' => ?_)
  rotate_left
  · obtain ⟨v,A,hj,hsc⟩ := ar_dd_texts (d1.ro h.kp.ro) hB.also.1 hB.also.2
    have hA := h.kpp ((Kp.refl b).app [A])
    have m1 := h.l1
    have hb0 := h.b0
    have hput := sc_dd_putJ hA.ob hA.js (by simp) (by omega) ([97,108,115,111,75,110,111,119,110,65,115] : List UInt8) hj
    unfold tv at hsc hput
    simp only [lawG,↓Xn,↓Xo,↓Xg,↓Xd,↓Xe,↓Xf,Tryz.VΓ,Tryz.Γs,Xp,Xi,Nat.reduceAdd,Nat.reduceSub,Nat.reduceLT,Nat.reduceLeDiff,reduceIte,reduceCtorEq,Nat.reduceEqDiff,implies_true,forall_const,lawV,lawA,beq_self_eq_true,bne_self_eq_false,Int.reduceBEq,Int.reduceBNe,Int.reduceLT,Int.reduceLE,m1,h4,hb0,c1]
    refine callV_sc hsc ?_
    rintro r b ⟨rfl,rfl⟩
    simp only [lawG,↓Xn,↓Xo,↓Xg,↓Xd,↓Xe,↓Xf,Tryz.VΓ,Tryz.Γs,Xp,Xi,Nat.reduceAdd,Nat.reduceSub,Nat.reduceLT,Nat.reduceLeDiff,reduceIte,reduceCtorEq,Nat.reduceEqDiff,implies_true,forall_const,lawV,lawA,beq_self_eq_true,bne_self_eq_false,Int.reduceBEq,Int.reduceBNe,Int.reduceLT,Int.reduceLE,h4]
    refine callV_sc hput ?_
    rintro r b ⟨rfl,qk',qi',Ls',g1,g2,g3,g4,g5⟩
    simp only [lawG,↓Xn,↓Xo,↓Xg,↓Xd,↓Xe,↓Xf,Tryz.VΓ,Tryz.Γs,Xp,Xi,Nat.reduceAdd,Nat.reduceSub,Nat.reduceLT,Nat.reduceLeDiff,reduceIte,reduceCtorEq,Nat.reduceEqDiff,implies_true,forall_const,lawV,lawA,beq_self_eq_true,bne_self_eq_false,Int.reduceBEq,Int.reduceBNe,Int.reduceLT,Int.reduceLE]
    exact hk' _ _ ⟨qk',qi',Ls',(hA.put g1 g2 g3 g4 g5).mv (by simp [SE,lk]),by simp [lk,h4]⟩
  clear h h4 hLl
  rintro m ⟨t,b⟩ ⟨qk,qi,Ls,h,h4⟩
  simp only at h h4
  have hKl : ([([105,100] : List UInt8)] ++ memK ([97,108,115,111,75,110,111,119,110,65,115] : List UInt8) (D.also.map Jv.str)).length ≤ 2 := by unfold memK; split <;> simp
  have hJl : ([Jv.str D.id] ++ memI (D.also.map Jv.str)).length ≤ 2 := by unfold memI; split <;> simp
  have hLl := h.js.len
  refine vcS_cutS 2500 (fun σ => ∃ qk qi Ls,ES bs [.str D.id,xa,xc,xm,xs] qk qi ([([105,100] : List UInt8)] ++ memK ([97,108,115,111,75,110,111,119,110,65,115] : List UInt8) (D.also.map Jv.str) ++ memK ([99,111,110,116,114,111,108,108,101,114] : List UInt8) (D.ctrl.map Jv.str)) Ls ([Jv.str D.id] ++ memI (D.also.map Jv.str) ++ memI (D.ctrl.map Jv.str)) σ.t σ.b ∧ lk 4 σ.t = some (.fn (.func 48) [.p (bs.length + 4) 0])) ?_ (fun k' hk' => ?_)
  rotate_left
  · obtain ⟨v,A,hj,hsc⟩ := ar_dd_texts (d2.ro h.kp.ro) hB.ctrl.1 hB.ctrl.2
    have hA := h.kpp ((Kp.refl b).app [A])
    have m1 := h.l1
    have hb0 := h.b0
    have hput := sc_dd_putJ hA.ob hA.js (by omega) (by omega) ([99,111,110,116,114,111,108,108,101,114] : List UInt8) hj
    unfold tv at hsc hput
    simp only [lawG,↓Xn,↓Xo,↓Xg,↓Xd,↓Xe,↓Xf,Tryz.VΓ,Tryz.Γs,Xp,Xi,Nat.reduceAdd,Nat.reduceSub,Nat.reduceLT,Nat.reduceLeDiff,reduceIte,reduceCtorEq,Nat.reduceEqDiff,implies_true,forall_const,lawV,lawA,beq_self_eq_true,bne_self_eq_false,Int.reduceBEq,Int.reduceBNe,Int.reduceLT,Int.reduceLE,m1,h4,hb0,c2]
    refine callV_sc hsc ?_
    rintro r b ⟨rfl,rfl⟩
    simp only [lawG,↓Xn,↓Xo,↓Xg,↓Xd,↓Xe,↓Xf,Tryz.VΓ,Tryz.Γs,Xp,Xi,Nat.reduceAdd,Nat.reduceSub,Nat.reduceLT,Nat.reduceLeDiff,reduceIte,reduceCtorEq,Nat.reduceEqDiff,implies_true,forall_const,lawV,lawA,beq_self_eq_true,bne_self_eq_false,Int.reduceBEq,Int.reduceBNe,Int.reduceLT,Int.reduceLE,h4]
    refine callV_sc hput ?_
    rintro r b ⟨rfl,qk',qi',Ls',g1,g2,g3,g4,g5⟩
    simp only [lawG,↓Xn,↓Xo,↓Xg,↓Xd,↓Xe,↓Xf,Tryz.VΓ,Tryz.Γs,Xp,Xi,Nat.reduceAdd,Nat.reduceSub,Nat.reduceLT,Nat.reduceLeDiff,reduceIte,reduceCtorEq,Nat.reduceEqDiff,implies_true,forall_const,lawV,lawA,beq_self_eq_true,bne_self_eq_false,Int.reduceBEq,Int.reduceBNe,Int.reduceLT,Int.reduceLE]
    exact hk' _ _ ⟨qk',qi',Ls',(hA.put g1 g2 g3 g4 g5).mv (by simp [SE,lk]),by simp [lk,h4]⟩
  clear h h4 hLl
  rintro m ⟨t,b⟩ ⟨qk,qi,Ls,h,h4⟩
  simp only at h h4
  have hKl : ([([105,100] : List UInt8)] ++ memK ([97,108,115,111,75,110,111,119,110,65,115] : List UInt8) (D.also.map Jv.str) ++ memK ([99,111,110,116,114,111,108,108,101,114] : List UInt8) (D.ctrl.map Jv.str)).length ≤ 3 := by
    rw [List.length_append]
    have : (memK ([99,111,110,116,114,111,108,108,101,114] : List UInt8) (D.ctrl.map Jv.str)).length ≤ 1 := by unfold memK; split <;> simp
    omega
  have hJl : ([Jv.str D.id] ++ memI (D.also.map Jv.str) ++ memI (D.ctrl.map Jv.str)).length ≤ 3 := by
    rw [List.length_append]
    have : (memI (D.ctrl.map Jv.str)).length ≤ 1 := by unfold memI; split <;> simp
    omega
  have hE : encM D = .mk 7 [] ([([105,100] : List UInt8)] ++ memK ([97,108,115,111,75,110,111,119,110,65,115] : List UInt8) (D.also.map Jv.str) ++ memK ([99,111,110,116,114,111,108,108,101,114] : List UInt8) (D.ctrl.map Jv.str) ++ memK ([118,101,114,105,102,105,99,97,116,105,111,110,77,101,116,104,111,100] : List UInt8) (D.methods.map methJ) ++ memK ([115,101,114,118,105,99,101] : List UInt8) (D.services.map servJ)) ([Jv.str D.id] ++ memI (D.also.map Jv.str) ++ memI (D.ctrl.map Jv.str) ++ memI (D.methods.map methJ) ++ memI (D.services.map servJ)) := rfl
  have hKs0 : ∀ s ∈ [([105,100] : List UInt8)] ++ memK ([97,108,115,111,75,110,111,119,110,65,115] : List UInt8) (D.also.map Jv.str) ++ memK ([99,111,110,116,114,111,108,108,101,114] : List UInt8) (D.ctrl.map Jv.str),s.length ≤ 140737488355328 := keys_app (keys_app (fun s hs => by rw [List.mem_singleton] at hs; rw [hs]; decide) (by decide)) (by decide)
  generalize encM D = JE at hE ⊢
  generalize [([105,100] : List UInt8)] ++ memK ([97,108,115,111,75,110,111,119,110,65,115] : List UInt8) (D.also.map Jv.str) ++ memK ([99,111,110,116,114,111,108,108,101,114] : List UInt8) (D.ctrl.map Jv.str) = Ks at h hKl hE hKs0
  generalize [Jv.str D.id] ++ memI (D.also.map Jv.str) ++ memI (D.ctrl.map Jv.str) = Js at h hJl hE
  have hLl := h.js.len
  refine vcS_cutS 2400 (fun σ => ∃ q5 q6,EL bs [.str D.id,xa,xc,xm,xs] qk qi Ks Ls Js q5 q6 .nils .nils [] [] σ.t σ.b) ?_ (fun k' hk' => ?_)
  rotate_left
  · simp only [lawG,↓Xn,↓Xo,↓Xg,↓Xd,↓Xe,↓Xf,Tryz.VΓ,Tryz.Γs,Xp,Xi,Nat.reduceAdd,Nat.reduceSub,Nat.reduceLT,Nat.reduceLeDiff,reduceIte,reduceCtorEq,Nat.reduceEqDiff,implies_true,forall_const,lawV,lawA,beq_self_eq_true,bne_self_eq_false,Int.reduceBEq,Int.reduceBNe,Int.reduceLT,Int.reduceLE]
    have hbl := (List.getElem?_eq_some_iff.1 h.ob.bq).1
    refine hk' _ _ ?_
    exact ⟨b.length,b.length + 1,(h.kpp ((Kp.refl b).app [_,_])).mv ⟨rfl,rfl,rfl⟩,h4,rfl,rfl,by omega,by omega,app_at0 _ _,app_at _ _ 1,.inl ⟨rfl,rfl⟩,.inl ⟨rfl,rfl⟩,fun _ _ _ e => by cases e⟩
  clear h h4
  rintro m ⟨t,b⟩ ⟨q5,q6,h⟩
  simp only at h
  refine vcS_cutS 2300 (fun σ => ∃ y Ms,EL bs [.str D.id,xa,xc,xm,xs] qk qi Ks Ls Js q5 q6 y .nils Ms [] σ.t σ.b ∧ TJs σ.b (D.methods.map methJ) Ms) ?_ (fun k' hk' => ?_)
  rotate_left
  · have m1 := h.es.l1
    have hb0 := h.es.b0
    have hM := rm_len d3
    simp only [lawG,↓Xn,↓Xo,↓Xg,↓Xd,↓Xe,↓Xf,Tryz.VΓ,Tryz.Γs,Xp,Xi,Nat.reduceAdd,Nat.reduceSub,Nat.reduceLT,Nat.reduceLeDiff,reduceIte,reduceCtorEq,Nat.reduceEqDiff,implies_true,forall_const,lawV,lawA,beq_self_eq_true,bne_self_eq_false,Int.reduceBEq,Int.reduceBNe,Int.reduceLT,Int.reduceLE,m1,hb0,c3,hM]
    refine loopV_mk (fun σ => ∃ (k : Nat) (y : SV) (Ms : List Tv),k ≤ D.methods.length ∧ EL bs [.str D.id,xa,xc,xm,xs] qk qi Ks Ls Js q5 q6 y .nils Ms [] σ.t σ.b ∧ lk 31 σ.t = some xm ∧ lk 32 σ.t = some (.int .i64 D.methods.length) ∧ lk 33 σ.t = some (.int .i64 k) ∧ Ms.length = k ∧ TJs σ.b ((D.methods.take k).map methJ) Ms) (fun σ => D.methods.length - lkI 33 σ) ⟨0,.nils,[],by omega,h.mv ⟨⟨rfl,rfl,rfl⟩,rfl,rfl,rfl⟩,rfl,rfl,rfl,rfl,by simp [TJs]⟩ ?_
    clear h m1 hb0
    rintro ⟨t,b⟩ ⟨k,y,Ms,hk,h,h31,h32,h33,hMl,hT⟩
    simp only at h h31 h32 h33 hT
    rw [lkI_eq h33]
    by_cases hlt : k < D.methods.length
    rotate_left
    · have hlt2 : decide ((k : Int) < D.methods.length) = false := decide_eq_false (by omega)
      simp only [lawG,↓Xn,↓Xo,↓Xg,↓Xd,↓Xe,↓Xf,Tryz.VΓ,Tryz.Γs,Xp,Xi,Nat.reduceAdd,Nat.reduceSub,Nat.reduceLT,Nat.reduceLeDiff,reduceIte,reduceCtorEq,Nat.reduceEqDiff,implies_true,forall_const,lawV,lawA,beq_self_eq_true,bne_self_eq_false,Int.reduceBEq,Int.reduceBNe,Int.reduceLT,Int.reduceLE,h31,h32,h33,hlt2]
      obtain rfl : k = D.methods.length := by omega
      rw [List.take_length] at hT
      refine hk' _ _ ?_
      exact ⟨y,Ms,h.mv ⟨⟨rfl,rfl,rfl⟩,rfl,rfl,rfl⟩,hT⟩
    have hlt2 : decide ((k : Int) < D.methods.length) = true := decide_eq_true (by omega)
    rcases d3 with ⟨-,hx0⟩ | ⟨i,rfl,hi⟩
    · rw [hx0] at hlt; simp at hlt
    have hbi := h.es.kp.at hi
    have hu : List.take 3 (List.drop (k * 3) (D.methods.flatMap mc)) = [.str D.methods[k].id,.str D.methods[k].type,.str D.methods[k].ctrl] := by rw [mc_at _ k hlt]; rfl
    have hul := mc_len D.methods
    obtain ⟨n1,n2,n3⟩ := hB.m _ (List.getElem_mem hlt)
    have hT2 : (D.methods.take (k + 1)).map methJ = (D.methods.take k).map methJ ++ [methJ D.methods[k]] := by rw [List.take_succ_eq_append_getElem hlt,List.map_append]; rfl
    have hml := hB.ml
    generalize D.methods[k] = x at hu n1 n2 n3 hT2
    have p1 := p_dd_text x.id
    have p2 := p_dd_text x.type
    have p3 := p_dd_text x.ctrl
    have m5 := h.l5
    have hb5 := h.b5
    have hb5l := (List.getElem?_eq_some_iff.1 hb5).1
    have hset : ∀ (l : List Res) X,(b ++ l).set q5 X = b.set q5 X ++ l := fun l X => app_setL hb5l l X
    have hob := sc_dd_objectX (bs := b ++ [.cells [.str x.id,.str x.type,.str x.ctrl] 48 true,.own [.str ([105,100] : List UInt8),.str ([116,121,112,101] : List UInt8),.str ([99,111,110,116,114,111,108,108,101,114] : List UInt8)] 9 1 3 true,.own [.int .i64 5,.str x.id,.nils,.nils,.int .i64 5,.str x.type,.nils,.nils,.int .i64 5,.str x.ctrl,.nils,.nils] 25 4 3 true]) (qx := b.length + 1) (qy := b.length + 2) (by omega) (app_at _ _ 1) (app_at _ _ 2)
    rcases h.r5 with ⟨rfl,rfl⟩ | ⟨q,hq0,rfl,hqi,hqk,hqb,hbq⟩
    · obtain rfl : k = 0 := by simpa using hMl.symm
      simp only [lawG,↓Xn,↓Xo,↓Xg,↓Xd,↓Xe,↓Xf,Tryz.VΓ,Tryz.Γs,Xp,Xi,Nat.reduceAdd,Nat.reduceSub,Nat.reduceLT,Nat.reduceLeDiff,reduceIte,reduceCtorEq,Nat.reduceEqDiff,implies_true,forall_const,lawV,lawA,beq_self_eq_true,bne_self_eq_false,Int.reduceBEq,Int.reduceBNe,Int.reduceLT,Int.reduceLE,m5,h31,h32,h33,hlt2,hbi,hu,hul,hb5,at_old hb5,hset]
      refine ⟨⟨by omega,by omega⟩,by omega,by decide,?_⟩
      (refine callD_pc (p1) ?_; simp only [lawG,↓Xn,↓Xo,↓Xg,↓Xd,↓Xe,↓Xf,Tryz.VΓ,Tryz.Γs,Xp,Xi,Nat.reduceAdd,Nat.reduceSub,Nat.reduceLT,Nat.reduceLeDiff,reduceIte,reduceCtorEq,Nat.reduceEqDiff,implies_true,forall_const,lawV,lawA,beq_self_eq_true,bne_self_eq_false,Int.reduceBEq,Int.reduceBNe,Int.reduceLT,Int.reduceLE,at_old hb5,hset])
      (refine callD_pc (p2) ?_; simp only [lawG,↓Xn,↓Xo,↓Xg,↓Xd,↓Xe,↓Xf,Tryz.VΓ,Tryz.Γs,Xp,Xi,Nat.reduceAdd,Nat.reduceSub,Nat.reduceLT,Nat.reduceLeDiff,reduceIte,reduceCtorEq,Nat.reduceEqDiff,implies_true,forall_const,lawV,lawA,beq_self_eq_true,bne_self_eq_false,Int.reduceBEq,Int.reduceBNe,Int.reduceLT,Int.reduceLE,at_old hb5,hset])
      (refine callD_pc (p3) ?_; simp only [lawG,↓Xn,↓Xo,↓Xg,↓Xd,↓Xe,↓Xf,Tryz.VΓ,Tryz.Γs,Xp,Xi,Nat.reduceAdd,Nat.reduceSub,Nat.reduceLT,Nat.reduceLeDiff,reduceIte,reduceCtorEq,Nat.reduceEqDiff,implies_true,forall_const,lawV,lawA,beq_self_eq_true,bne_self_eq_false,Int.reduceBEq,Int.reduceBNe,Int.reduceLT,Int.reduceLE,at_old hb5,hset])
      refine ⟨by decide,callD_scw [(b.length + 1,0,0),(b.length + 2,0,0)] hob (outs_sets _ _ _ _ _) ?_⟩
      simp only [lawG,↓Xn,↓Xo,↓Xg,↓Xd,↓Xe,↓Xf,Tryz.VΓ,Tryz.Γs,Xp,Xi,Nat.reduceAdd,Nat.reduceSub,Nat.reduceLT,Nat.reduceLeDiff,reduceIte,reduceCtorEq,Nat.reduceEqDiff,implies_true,forall_const,lawV,lawA,beq_self_eq_true,bne_self_eq_false,Int.reduceBEq,Int.reduceBNe,Int.reduceLT,Int.reduceLE,m5,h31,h32,h33,at_old hb5,hset]
      have z0 : ∀ m,(b.length + m = q5) = False := fun m => eq_false (by omega)
      have z1 : (b.length = q5) = False := eq_false (by omega)
      have hql := (List.getElem?_eq_some_iff.1 h.es.ob.bi).1
      have hql2 := (List.getElem?_eq_some_iff.1 h.es.ob.bk).1
      have hk4 := h.es.kp.1
      refine ⟨by decide,⟨by decide,by decide⟩,?_,⟨by omega,by omega⟩,⟨1,.o (b.length + 4) 1,[⟨7,[],.o (b.length + 1) 3,.o (b.length + 2) 3⟩],by omega,EL.mv (EL.re5 h (by simp) (fun i r hi hn _ => at_old (get_setN hi (Ne.symm hn) _) _) (get_setS hb5l _ _) (.inr ⟨b.length + 4,by simp,rfl,by omega,by omega,by omega,app_atL (by simp) _ 4⟩)) ⟨⟨rfl,rfl,rfl⟩,rfl,rfl,rfl⟩,rfl,rfl,?_⟩,?_⟩
      · refine OkD_ren (fun n => if n = q5 then 100 else n - b.length) ?_
        simp only [List.map_cons,List.map_nil,renRk,renT,Nat.add_sub_cancel_left,Nat.sub_self,z0,z1,eq_self,if_true,if_false]
        exact OkD_fast (by kernel_rfl)
      · rw [hT2]
        exact tjs_cons (TJ.three (K := [([105,100] : List UInt8),([116,121,112,101] : List UInt8),([99,111,110,116,114,111,108,108,101,114] : List UInt8)]) (Ls := [⟨5,x.id,.nils,.nils⟩,⟨5,x.type,.nils,.nils⟩,⟨5,x.ctrl,.nils,.nils⟩]) (app_atL (by simp) _ 1) rfl (by decide) (app_atL (by simp) _ 2) rfl (tjs_cons (TJ.text _ _ n1) (tjs_cons (TJ.text _ _ n2) (tjs_cons (TJ.text _ _ n3) (tjs_nil _))))) (tjs_nil _)
      · rw [lkI_eq (show lk 33 _ = some (.int .i64 ((1 : Nat) : Int)) from rfl)]; omega
    · have hql := (List.getElem?_eq_some_iff.1 hbq).1
      have hsq : ∀ (l : List Res) X,(b ++ l).set q X = b.set q X ++ l := fun l X => app_setL hql l X
      have hset2 : ∀ (l : List Res) Y X,(b.set q Y ++ l).set q5 X = (b.set q Y).set q5 X ++ l := fun l Y X => app_setL (by simpa using hb5l) l X
      have hq5 : q ≠ q5 := by rintro rfl; rw [hb5] at hbq; cases hbq
      have hbq1 := fun Y => at_old (get_setN hb5 hq5 Y)
      have hq0' : 0 < k := by omega
      rw [hMl] at hbq
      simp only [lawG,↓Xn,↓Xo,↓Xg,↓Xd,↓Xe,↓Xf,Tryz.VΓ,Tryz.Γs,Xp,Xi,Nat.reduceAdd,Nat.reduceSub,Nat.reduceLT,Nat.reduceLeDiff,reduceIte,reduceCtorEq,Nat.reduceEqDiff,implies_true,forall_const,lawV,lawA,beq_self_eq_true,bne_self_eq_false,Int.reduceBEq,Int.reduceBNe,Int.reduceLT,Int.reduceLE,hMl,m5,h31,h32,h33,hlt2,hbi,hu,hul,hb5,at_old hb5,hset]
      refine ⟨⟨by omega,by omega⟩,by omega,by decide,?_⟩
      (refine callD_pc (p1) ?_; simp only [lawG,↓Xn,↓Xo,↓Xg,↓Xd,↓Xe,↓Xf,Tryz.VΓ,Tryz.Γs,Xp,Xi,Nat.reduceAdd,Nat.reduceSub,Nat.reduceLT,Nat.reduceLeDiff,reduceIte,reduceCtorEq,Nat.reduceEqDiff,implies_true,forall_const,lawV,lawA,beq_self_eq_true,bne_self_eq_false,Int.reduceBEq,Int.reduceBNe,Int.reduceLT,Int.reduceLE,at_old hb5,hset])
      (refine callD_pc (p2) ?_; simp only [lawG,↓Xn,↓Xo,↓Xg,↓Xd,↓Xe,↓Xf,Tryz.VΓ,Tryz.Γs,Xp,Xi,Nat.reduceAdd,Nat.reduceSub,Nat.reduceLT,Nat.reduceLeDiff,reduceIte,reduceCtorEq,Nat.reduceEqDiff,implies_true,forall_const,lawV,lawA,beq_self_eq_true,bne_self_eq_false,Int.reduceBEq,Int.reduceBNe,Int.reduceLT,Int.reduceLE,at_old hb5,hset])
      (refine callD_pc (p3) ?_; simp only [lawG,↓Xn,↓Xo,↓Xg,↓Xd,↓Xe,↓Xf,Tryz.VΓ,Tryz.Γs,Xp,Xi,Nat.reduceAdd,Nat.reduceSub,Nat.reduceLT,Nat.reduceLeDiff,reduceIte,reduceCtorEq,Nat.reduceEqDiff,implies_true,forall_const,lawV,lawA,beq_self_eq_true,bne_self_eq_false,Int.reduceBEq,Int.reduceBNe,Int.reduceLT,Int.reduceLE,at_old hb5,hset])
      refine ⟨by decide,callD_scw [(b.length + 1,0,0),(b.length + 2,0,0)] hob (outs_sets _ _ _ _ _) ?_⟩
      simp only [lawG,↓Xn,↓Xo,↓Xg,↓Xd,↓Xe,↓Xf,Tryz.VΓ,Tryz.Γs,Xp,Xi,Nat.reduceAdd,Nat.reduceSub,Nat.reduceLT,Nat.reduceLeDiff,reduceIte,reduceCtorEq,Nat.reduceEqDiff,implies_true,forall_const,lawV,lawA,beq_self_eq_true,bne_self_eq_false,Int.reduceBEq,Int.reduceBNe,Int.reduceLT,Int.reduceLE,m5,h31,h32,h33,at_old hb5,at_old hbq,hset,hsq,hset2,hbq1]
      have z0 : ∀ m,(b.length + m = q5) = False := fun m => eq_false (by omega)
      have z1 : (b.length = q5) = False := eq_false (by omega)
      have z2 : ∀ m,(b.length + m = q) = False := fun m => eq_false (by omega)
      have z3 : (b.length = q) = False := eq_false (by omega)
      have z4 : (q = q5) = False := eq_false hq5
      have hkeep : ∀ (X : Res) (l : List Res) i r,b[i]? = some r → i ≠ q5 → (∀ n,SV.o q k ≠ .o i n) → ((b.set q .gone).set q5 X ++ l)[i]? = some r := fun X l i r hi hn hq => at_old (get_setN (get_setN hi (fun e => hq k (by rw [e])) _) (Ne.symm hn) _) _
      have hyl := (List.getElem?_eq_some_iff.1 h.es.ob.bi).1
      have hyl2 := (List.getElem?_eq_some_iff.1 h.es.ob.bk).1
      have hk4 := h.es.kp.1
      rw [hMl] at h
      refine ⟨by decide,⟨by unfold maxLen; omega,by omega⟩,?_,⟨by omega,by omega⟩,⟨k + 1,.o (b.length + 4) (k + 1),Ms ++ [⟨7,[],.o (b.length + 1) 3,.o (b.length + 2) 3⟩],by omega,EL.mv (EL.re5 h (by simp) (hkeep _ _) (get_setS (by simpa using hb5l) _ _) (.inr ⟨b.length + 4,by simp,by simp [hMl],by omega,by omega,by omega,?_⟩)) ⟨⟨rfl,rfl,rfl⟩,rfl,rfl,rfl⟩,rfl,by simp [hMl],?_⟩,?_⟩
      · refine OkD_ren (fun n => if n = q5 then 100 else if n = q then 101 else n - b.length) ?_
        simp only [List.map_cons,List.map_nil,renRk,renT,Nat.add_sub_cancel_left,Nat.sub_self,z0,z1,z2,z3,z4,eq_self,if_true,if_false]
        exact OkD_fast (by kernel_rfl)
      · rw [app_atL (by simp),List.flatMap_append]; simp [hMl,tv]
      · rw [hT2]
        exact (hT.ro (h.r5.ro hb5 (hkeep _ _))).app (tjs_cons (TJ.three (K := [([105,100] : List UInt8),([116,121,112,101] : List UInt8),([99,111,110,116,114,111,108,108,101,114] : List UInt8)]) (Ls := [⟨5,x.id,.nils,.nils⟩,⟨5,x.type,.nils,.nils⟩,⟨5,x.ctrl,.nils,.nils⟩]) (app_atL (by simp) _ 1) rfl (by decide) (app_atL (by simp) _ 2) rfl (tjs_cons (TJ.text _ _ n1) (tjs_cons (TJ.text _ _ n2) (tjs_cons (TJ.text _ _ n3) (tjs_nil _))))) (tjs_nil _))
      · rw [lkI_eq (show lk 33 _ = some (.int .i64 ((k + 1 : Nat) : Int)) from rfl)]; omega
  clear h
  rintro m ⟨t,b⟩ ⟨y,Ms,h,hT⟩
  simp only at h hT
  refine vcS_cutS 2200 (fun σ => ∃ y6 M6,EL bs [.str D.id,xa,xc,xm,xs] qk qi Ks Ls Js q5 q6 y y6 Ms M6 σ.t σ.b ∧ TJs σ.b (D.methods.map methJ) Ms ∧ TJs σ.b (D.services.map servJ) M6) ?_ (fun k' hk' => ?_)
  rotate_left
  · have m1 := h.es.l1
    have hb0 := h.es.b0
    have hM := rq_len d4
    have hQl : Q.length = D.services.length := by rw [← d6,List.length_map]
    simp only [lawG,↓Xn,↓Xo,↓Xg,↓Xd,↓Xe,↓Xf,Tryz.VΓ,Tryz.Γs,Xp,Xi,Nat.reduceAdd,Nat.reduceSub,Nat.reduceLT,Nat.reduceLeDiff,reduceIte,reduceCtorEq,Nat.reduceEqDiff,implies_true,forall_const,lawV,lawA,beq_self_eq_true,bne_self_eq_false,Int.reduceBEq,Int.reduceBNe,Int.reduceLT,Int.reduceLE,m1,hb0,c4,hM]
    refine loopV_mk (fun σ => ∃ (k : Nat) (y6 : SV) (M6 : List Tv),k ≤ Q.length ∧ EL bs [.str D.id,xa,xc,xm,xs] qk qi Ks Ls Js q5 q6 y y6 Ms M6 σ.t σ.b ∧ lk 56 σ.t = some xs ∧ lk 57 σ.t = some (.int .i64 Q.length) ∧ lk 58 σ.t = some (.int .i64 k) ∧ M6.length = k ∧ TJs σ.b (D.methods.map methJ) Ms ∧ TJs σ.b ((D.services.take k).map servJ) M6) (fun σ => Q.length - lkI 58 σ) ⟨0,.nils,[],by omega,h.mv ⟨⟨rfl,rfl,rfl⟩,rfl,rfl,rfl⟩,rfl,rfl,rfl,rfl,hT,by simp [TJs]⟩ ?_
    clear h m1 hb0 hT
    rintro ⟨t,b⟩ ⟨k,y6,M6,hk,h,h31,h32,h33,hMl,hTm,hT⟩
    simp only at h h31 h32 h33 hT hTm
    rw [lkI_eq h33]
    by_cases hlt : k < Q.length
    rotate_left
    · have hlt2 : decide ((k : Int) < Q.length) = false := decide_eq_false (by omega)
      simp only [lawG,↓Xn,↓Xo,↓Xg,↓Xd,↓Xe,↓Xf,Tryz.VΓ,Tryz.Γs,Xp,Xi,Nat.reduceAdd,Nat.reduceSub,Nat.reduceLT,Nat.reduceLeDiff,reduceIte,reduceCtorEq,Nat.reduceEqDiff,implies_true,forall_const,lawV,lawA,beq_self_eq_true,bne_self_eq_false,Int.reduceBEq,Int.reduceBNe,Int.reduceLT,Int.reduceLE,h31,h32,h33,hlt2]
      rw [List.take_of_length_le (by omega)] at hT
      refine hk' _ _ ?_
      exact ⟨y6,M6,h.mv ⟨⟨rfl,rfl,rfl⟩,rfl,rfl,rfl⟩,hTm,hT⟩
    have hlt2 : decide ((k : Int) < Q.length) = true := decide_eq_true (by omega)
    rcases d4 with ⟨-,hx0⟩ | ⟨i,rfl,hi⟩
    · rw [hx0] at hlt; simp at hlt
    have hbi := h.es.kp.at hi
    have hu : List.take 3 (List.drop (k * 3) (Q.flatMap sqc)) = [.str Q[k].m.id,Q[k].y1,Q[k].y2] := by rw [sqc_at _ k hlt]; rfl
    have hul := sqc_len Q
    have hltS : k < D.services.length := by omega
    have hqs : Q[k].m = D.services[k] := by
      have : (Q.map Sq.m)[k]'(by simpa using hlt) = D.services[k] := by simp only [d6]
      simpa using this
    obtain ⟨n1,⟨n2,n3⟩,n4,n5⟩ := hB.s _ (List.getElem_mem hltS)
    have hT2 : (D.services.take (k + 1)).map servJ = (D.services.take k).map servJ ++ [servJ D.services[k]] := by rw [List.take_succ_eq_append_getElem hltS,List.map_append]; rfl
    have hml := hB.sl
    obtain ⟨s1,s2⟩ := d5 _ (List.getElem_mem hlt)
    rw [← hqs] at n1 n2 n3 n4 n5 hT2
    generalize Q[k] = x at hu n1 n2 n3 n4 n5 hT2 s1 s2
    have p1 := p_dd_text x.m.id
    have u1 := s1.one
    have u2 := s2.one
    have hone2 : (Vc.one x.y1 && Vc.one x.y2) = true := by rw [u1,u2]; rfl
    have m5 := h.l6
    have hb5 := h.b6
    have hb5l := (List.getElem?_eq_some_iff.1 hb5).1
    have hset : ∀ (l : List Res) X,(b ++ l).set q6 X = b.set q6 X ++ l := fun l X => app_setL hb5l l X
    obtain ⟨v1,A1,hj1,t1⟩ := ar_dd_texts ((s1.ro h.es.kp.ro).ro ((Ro.refl b).app [.cells [.str x.m.id,x.y1,x.y2] 46 true])) n2 n3
    obtain ⟨v2,A2,hj2,t2⟩ := ar_dd_texts ((s2.ro h.es.kp.ro).ro ((Ro.refl b).app [.cells [.str x.m.id,x.y1,x.y2] 46 true,A1])) n4 n5
    obtain ⟨-,-,v13,v14⟩ := hj1.tin
    obtain ⟨-,-,v23,v24⟩ := hj2.tin
    have hob := sc_dd_objectX (bs := b ++ [.cells [.str x.m.id,x.y1,x.y2] 46 true,A1,A2,.own [.str ([105,100] : List UInt8),.str ([116,121,112,101] : List UInt8),.str ([115,101,114,118,105,99,101,69,110,100,112,111,105,110,116] : List UInt8)] 9 1 3 true,.own [.int .i64 5,.str x.m.id,.nils,.nils,.int .i64 v1.k,.str v1.t,v1.xk,v1.xi,.int .i64 v2.k,.str v2.t,v2.xk,v2.xi] 25 4 3 true]) (qx := b.length + 3) (qy := b.length + 4) (by omega) (app_at _ _ 3) (app_at _ _ 4)
    simp only [List.append_assoc,List.cons_append,List.nil_append] at t1 t2 hj1 hj2
    unfold tv at t1 t2
    rcases h.r6 with ⟨rfl,rfl⟩ | ⟨q,hq0,rfl,hqi,hqk,hqb,hbq⟩
    · obtain rfl : k = 0 := by simpa using hMl.symm
      simp only [lawG,↓Xn,↓Xo,↓Xg,↓Xd,↓Xe,↓Xf,Tryz.VΓ,Tryz.Γs,Xp,Xi,Nat.reduceAdd,Nat.reduceSub,Nat.reduceLT,Nat.reduceLeDiff,reduceIte,reduceCtorEq,Nat.reduceEqDiff,implies_true,forall_const,lawV,lawA,beq_self_eq_true,bne_self_eq_false,Int.reduceBEq,Int.reduceBNe,Int.reduceLT,Int.reduceLE,m5,h31,h32,h33,hlt2,hbi,hu,hul,hb5,at_old hb5,hset,u1,u2,hone2]
      refine ⟨⟨by omega,by omega⟩,by omega,permB_mk (by kernel_rfl),?_⟩
      (refine callD_pc (p1) ?_; simp only [lawG,↓Xn,↓Xo,↓Xg,↓Xd,↓Xe,↓Xf,Tryz.VΓ,Tryz.Γs,Xp,Xi,Nat.reduceAdd,Nat.reduceSub,Nat.reduceLT,Nat.reduceLeDiff,reduceIte,reduceCtorEq,Nat.reduceEqDiff,implies_true,forall_const,lawV,lawA,beq_self_eq_true,bne_self_eq_false,Int.reduceBEq,Int.reduceBNe,Int.reduceLT,Int.reduceLE,at_old hb5,hset,u1,u2])
      refine callD_scw [(b.length + 1,0,0)] t1 (outs1L [_] rfl _) ?_
      simp only [lawG,↓Xn,↓Xo,↓Xg,↓Xd,↓Xe,↓Xf,Tryz.VΓ,Tryz.Γs,Xp,Xi,Nat.reduceAdd,Nat.reduceSub,Nat.reduceLT,Nat.reduceLeDiff,reduceIte,reduceCtorEq,Nat.reduceEqDiff,implies_true,forall_const,lawV,lawA,beq_self_eq_true,bne_self_eq_false,Int.reduceBEq,Int.reduceBNe,Int.reduceLT,Int.reduceLE,m5,at_old hb5,hset,u1,u2]
      refine callD_scw [(b.length + 2,0,0)] t2 (outs1L [_,_] rfl _) ?_
      simp only [lawG,↓Xn,↓Xo,↓Xg,↓Xd,↓Xe,↓Xf,Tryz.VΓ,Tryz.Γs,Xp,Xi,Nat.reduceAdd,Nat.reduceSub,Nat.reduceLT,Nat.reduceLeDiff,reduceIte,reduceCtorEq,Nat.reduceEqDiff,implies_true,forall_const,lawV,lawA,beq_self_eq_true,bne_self_eq_false,Int.reduceBEq,Int.reduceBNe,Int.reduceLT,Int.reduceLE,m5,at_old hb5,hset,u1,u2,v13,v14,v23,v24]
      refine ⟨by decide,by decide,callD_scw [(b.length + 3,0,0),(b.length + 4,0,0)] hob (outs_sets _ _ _ _ _) ?_⟩
      simp only [lawG,↓Xn,↓Xo,↓Xg,↓Xd,↓Xe,↓Xf,Tryz.VΓ,Tryz.Γs,Xp,Xi,Nat.reduceAdd,Nat.reduceSub,Nat.reduceLT,Nat.reduceLeDiff,reduceIte,reduceCtorEq,Nat.reduceEqDiff,implies_true,forall_const,lawV,lawA,beq_self_eq_true,bne_self_eq_false,Int.reduceBEq,Int.reduceBNe,Int.reduceLT,Int.reduceLE,m5,h31,h32,h33,at_old hb5,hset]
      have z0 : ∀ m,(b.length + m = q6) = False := fun m => eq_false (by omega)
      have z1 : (b.length = q6) = False := eq_false (by omega)
      have hql := (List.getElem?_eq_some_iff.1 h.es.ob.bi).1
      have hql2 := (List.getElem?_eq_some_iff.1 h.es.ob.bk).1
      have hk4 := h.es.kp.1
      have hkeep : ∀ (X : Res) (l : List Res) i r,b[i]? = some r → i ≠ q6 → (∀ n,SV.nils ≠ .o i n) → (b.set q6 X ++ l)[i]? = some r := fun X l i r hi hn _ => at_old (get_setN hi (Ne.symm hn) _) _
      have hro : Ro b (b.set q6 (.cells [.int .i64 6,.str [],.nils,.o (b.length + 6) 1] 25 true)) := AS.setp.ro_p hb5 _
      refine ⟨by decide,⟨by decide,by decide⟩,?_,⟨by omega,by omega⟩,⟨1,.o (b.length + 6) 1,[⟨7,[],.o (b.length + 3) 3,.o (b.length + 4) 3⟩],by omega,EL.mv (EL.re6 h (by simp) (hkeep _ _) (get_setS hb5l _ _) (.inr ⟨b.length + 6,by simp,rfl,by omega,by omega,by omega,app_atL (by simp) _ 6⟩) (fun i n e => by cases e; omega)) ⟨⟨rfl,rfl,rfl⟩,rfl,rfl,rfl⟩,rfl,rfl,hTm.ro (h.r6.ro hb5 (hkeep _ _)),?_⟩,?_⟩
      · refine OkD_ren (fun n => if n = q6 then 100 else n - b.length) ?_
        simp only [List.map_cons,List.map_nil,renRk,renT,Nat.add_sub_cancel_left,Nat.sub_self,z0,z1,eq_self,if_true,if_false]
        exact OkD_fast (by kernel_rfl)
      · rw [hT2]
        exact tjs_cons (TJ.three (K := [([105,100] : List UInt8),([116,121,112,101] : List UInt8),([115,101,114,118,105,99,101,69,110,100,112,111,105,110,116] : List UInt8)]) (Ls := [⟨5,x.m.id,.nils,.nils⟩,v1,v2]) (app_atL (by simp) _ 3) rfl (by decide) (app_atL (by simp) _ 4) rfl (tjs_cons (TJ.text _ _ n1) (tjs_cons (hj1.ro (Ro.preD hro (by simp) [_,_] [_,_,_,_,_])) (tjs_cons (hj2.ro (Ro.preD hro (by simp) [_,_,_] [_,_,_,_])) (tjs_nil _))))) (tjs_nil _)
      · rw [lkI_eq (show lk 58 _ = some (.int .i64 ((1 : Nat) : Int)) from rfl)]; omega
    · have hql := (List.getElem?_eq_some_iff.1 hbq).1
      have hsq : ∀ (l : List Res) X,(b ++ l).set q X = b.set q X ++ l := fun l X => app_setL hql l X
      have hset2 : ∀ (l : List Res) Y X,(b.set q Y ++ l).set q6 X = (b.set q Y).set q6 X ++ l := fun l Y X => app_setL (by simpa using hb5l) l X
      have hq5 : q ≠ q6 := by rintro rfl; rw [hb5] at hbq; cases hbq
      have hbq1 := fun Y => at_old (get_setN hb5 hq5 Y)
      rw [hMl] at hbq
      simp only [lawG,↓Xn,↓Xo,↓Xg,↓Xd,↓Xe,↓Xf,Tryz.VΓ,Tryz.Γs,Xp,Xi,Nat.reduceAdd,Nat.reduceSub,Nat.reduceLT,Nat.reduceLeDiff,reduceIte,reduceCtorEq,Nat.reduceEqDiff,implies_true,forall_const,lawV,lawA,beq_self_eq_true,bne_self_eq_false,Int.reduceBEq,Int.reduceBNe,Int.reduceLT,Int.reduceLE,hMl,m5,h31,h32,h33,hlt2,hbi,hu,hul,hb5,at_old hb5,hset,u1,u2,hone2]
      refine ⟨⟨by omega,by omega⟩,by omega,permB_mk (by kernel_rfl),?_⟩
      (refine callD_pc (p1) ?_; simp only [lawG,↓Xn,↓Xo,↓Xg,↓Xd,↓Xe,↓Xf,Tryz.VΓ,Tryz.Γs,Xp,Xi,Nat.reduceAdd,Nat.reduceSub,Nat.reduceLT,Nat.reduceLeDiff,reduceIte,reduceCtorEq,Nat.reduceEqDiff,implies_true,forall_const,lawV,lawA,beq_self_eq_true,bne_self_eq_false,Int.reduceBEq,Int.reduceBNe,Int.reduceLT,Int.reduceLE,at_old hb5,hset,u1,u2])
      refine callD_scw [(b.length + 1,0,0)] t1 (outs1L [_] rfl _) ?_
      simp only [lawG,↓Xn,↓Xo,↓Xg,↓Xd,↓Xe,↓Xf,Tryz.VΓ,Tryz.Γs,Xp,Xi,Nat.reduceAdd,Nat.reduceSub,Nat.reduceLT,Nat.reduceLeDiff,reduceIte,reduceCtorEq,Nat.reduceEqDiff,implies_true,forall_const,lawV,lawA,beq_self_eq_true,bne_self_eq_false,Int.reduceBEq,Int.reduceBNe,Int.reduceLT,Int.reduceLE,m5,at_old hb5,hset,u1,u2]
      refine callD_scw [(b.length + 2,0,0)] t2 (outs1L [_,_] rfl _) ?_
      simp only [lawG,↓Xn,↓Xo,↓Xg,↓Xd,↓Xe,↓Xf,Tryz.VΓ,Tryz.Γs,Xp,Xi,Nat.reduceAdd,Nat.reduceSub,Nat.reduceLT,Nat.reduceLeDiff,reduceIte,reduceCtorEq,Nat.reduceEqDiff,implies_true,forall_const,lawV,lawA,beq_self_eq_true,bne_self_eq_false,Int.reduceBEq,Int.reduceBNe,Int.reduceLT,Int.reduceLE,m5,at_old hb5,hset,u1,u2,v13,v14,v23,v24]
      refine ⟨by decide,by decide,callD_scw [(b.length + 3,0,0),(b.length + 4,0,0)] hob (outs_sets _ _ _ _ _) ?_⟩
      simp only [lawG,↓Xn,↓Xo,↓Xg,↓Xd,↓Xe,↓Xf,Tryz.VΓ,Tryz.Γs,Xp,Xi,Nat.reduceAdd,Nat.reduceSub,Nat.reduceLT,Nat.reduceLeDiff,reduceIte,reduceCtorEq,Nat.reduceEqDiff,implies_true,forall_const,lawV,lawA,beq_self_eq_true,bne_self_eq_false,Int.reduceBEq,Int.reduceBNe,Int.reduceLT,Int.reduceLE,m5,h31,h32,h33,at_old hb5,at_old hbq,hset,hsq,hset2,hbq1]
      have z0 : ∀ m,(b.length + m = q6) = False := fun m => eq_false (by omega)
      have z1 : (b.length = q6) = False := eq_false (by omega)
      have z2 : ∀ m,(b.length + m = q) = False := fun m => eq_false (by omega)
      have z3 : (b.length = q) = False := eq_false (by omega)
      have z4 : (q = q6) = False := eq_false hq5
      have hkeep : ∀ (X : Res) (l : List Res) i r,b[i]? = some r → i ≠ q6 → (∀ n,SV.o q k ≠ .o i n) → ((b.set q .gone).set q6 X ++ l)[i]? = some r := fun X l i r hi hn hq => at_old (get_setN (get_setN hi (fun e => hq k (by rw [e])) _) (Ne.symm hn) _) _
      have hyl := (List.getElem?_eq_some_iff.1 h.es.ob.bi).1
      have hyl2 := (List.getElem?_eq_some_iff.1 h.es.ob.bk).1
      have hk4 := h.es.kp.1
      have hro : Ro b ((b.set q .gone).set q6 (.cells [.int .i64 6,.str [],.nils,.o (b.length + 6) (k + 1)] 25 true)) := ((Ro.refl b).setT hbq .gone).trans (AS.setp.ro_p (get_setN hb5 hq5 _) _)
      rw [hMl] at h
      refine ⟨by decide,⟨by unfold maxLen; omega,by omega⟩,?_,⟨by omega,by omega⟩,⟨k + 1,.o (b.length + 6) (k + 1),M6 ++ [⟨7,[],.o (b.length + 3) 3,.o (b.length + 4) 3⟩],by omega,EL.mv (EL.re6 h (by simp) (hkeep _ _) (get_setS (by simpa using hb5l) _ _) (.inr ⟨b.length + 6,by simp,by simp [hMl],by omega,by omega,by omega,?_⟩) (fun i n e => by cases e; omega)) ⟨⟨rfl,rfl,rfl⟩,rfl,rfl,rfl⟩,rfl,by simp [hMl],hTm.ro (h.r6.ro hb5 (hkeep _ _)),?_⟩,?_⟩
      · refine OkD_ren (fun n => if n = q6 then 100 else if n = q then 101 else n - b.length) ?_
        simp only [List.map_cons,List.map_nil,renRk,renT,Nat.add_sub_cancel_left,Nat.sub_self,z0,z1,z2,z3,z4,eq_self,if_true,if_false]
        exact OkD_fast (by kernel_rfl)
      · rw [app_atL (by simp),List.flatMap_append]; simp [hMl,tv]
      · rw [hT2]
        exact (hT.ro (h.r6.ro hb5 (hkeep _ _))).app (tjs_cons (TJ.three (K := [([105,100] : List UInt8),([116,121,112,101] : List UInt8),([115,101,114,118,105,99,101,69,110,100,112,111,105,110,116] : List UInt8)]) (Ls := [⟨5,x.m.id,.nils,.nils⟩,v1,v2]) (app_atL (by simp) _ 3) rfl (by decide) (app_atL (by simp) _ 4) rfl (tjs_cons (TJ.text _ _ n1) (tjs_cons (hj1.ro (Ro.preD hro (by simp) [_,_] [_,_,_,_,_])) (tjs_cons (hj2.ro (Ro.preD hro (by simp) [_,_,_] [_,_,_,_])) (tjs_nil _))))) (tjs_nil _))
      · rw [lkI_eq (show lk 58 _ = some (.int .i64 ((k + 1 : Nat) : Int)) from rfl)]; omega
  clear h hT
  rintro m ⟨t,b⟩ ⟨y6,M6,h,hTm,hTs⟩
  simp only at h hTm hTs
  have hMl := hTm.len
  have hM6 := hTs.len
  simp only [List.length_map] at hMl hM6
  have hml := hB.ml
  have hsl := hB.sl
  refine vcS_cutS 2100 (fun σ => ∃ qk qi Ls,ES bs [.str D.id,xa,xc,xm,xs] qk qi (Ks ++ memK ([118,101,114,105,102,105,99,97,116,105,111,110,77,101,116,104,111,100] : List UInt8) (D.methods.map methJ)) Ls (Js ++ memI (D.methods.map methJ)) σ.t σ.b ∧ lk 4 σ.t = some (.fn (.func 48) [.p (bs.length + 4) 0]) ∧ lk 6 σ.t = some (.p q6 0) ∧ σ.b[q6]? = some (.cells [.int .i64 6,.str [],.nils,y6] 25 true) ∧ RW (bs.length + 1) qk qi σ.b y6 M6 ∧ TJs σ.b (D.services.map servJ) M6) ?_ (fun k' hk' => ?_)
  rotate_left
  · have m4 := h.l4
    have m5 := h.l5
    have hb5 := h.b5
    have o5 := h.r5.one
    obtain ⟨b1,hsc,h1,hj,hl1,hk1⟩ := h.es.dull h.r5 hTm (by omega)
    have hLl1 := h1.js.len
    have hput := hsc _ _ _ (sc_dd_putJ h1.ob h1.js (by omega) (by omega) ([118,101,114,105,102,105,99,97,116,105,111,110,77,101,116,104,111,100] : List UInt8) hj)
    have hro1 := h.r5.ro h.b5 (b' := b1) (fun i r hi _ hn => hk1 i r hi hn)
    unfold tv at hput
    simp only [lawG,↓Xn,↓Xo,↓Xg,↓Xd,↓Xe,↓Xf,Tryz.VΓ,Tryz.Γs,Xp,Xi,Nat.reduceAdd,Nat.reduceSub,Nat.reduceLT,Nat.reduceLeDiff,reduceIte,reduceCtorEq,Nat.reduceEqDiff,implies_true,forall_const,lawV,lawA,beq_self_eq_true,bne_self_eq_false,Int.reduceBEq,Int.reduceBNe,Int.reduceLT,Int.reduceLE,m4,m5,hb5,o5]
    refine callV_sc hput ?_
    rintro r b2 ⟨rfl,qk',qi',Ls',g1,g2,g3,g4,g5⟩
    simp only [lawG,↓Xn,↓Xo,↓Xg,↓Xd,↓Xe,↓Xf,Tryz.VΓ,Tryz.Γs,Xp,Xi,Nat.reduceAdd,Nat.reduceSub,Nat.reduceLT,Nat.reduceLeDiff,reduceIte,reduceCtorEq,Nat.reduceEqDiff,implies_true,forall_const,lawV,lawA,beq_self_eq_true,bne_self_eq_false,Int.reduceBEq,Int.reduceBNe,Int.reduceLT,Int.reduceLE]
    have h61 := hk1 _ _ h.b6 (h.r5.nec h.b6)
    have hne : ∀ {c T m},b1[q6]? = some (.cells c T m) → q6 ≠ qk ∧ q6 ≠ qi := fun hc => ⟨(by rintro rfl; rw [h1.ob.bk] at hc; cases hc),(by rintro rfl; rw [h1.ob.bi] at hc; cases hc)⟩
    have h56 := h.h5
    have h566 := h.h6
    have h62 := g5.2 _ _ h61 (by omega) (hne h61).1 (hne h61).2
    refine hk' _ _ ?_
    refine ⟨qk',qi',Ls',(h1.put g1 g2 g3 g4 g5).mv ⟨rfl,rfl,rfl⟩,m4,h.l6,h62,?_,(hTs.ro hro1).ro (h1.ob.ro g5)⟩
    rcases h.r6 with e | ⟨q,e1,rfl,e3,e4,e5,e6⟩
    · exact .inl e
    · have e61 := hk1 _ _ e6 (fun n e => h.ne q n M6.length e rfl)
      have hql := (List.getElem?_eq_some_iff.1 e61).1
      have hq4 : q ≠ bs.length + 4 := by rintro rfl; rw [h1.ob.bq] at e61; cases e61
      exact .inr ⟨q,e1,rfl,by omega,by omega,e5,g5.2 _ _ e61 hq4 e4 e3⟩
  clear h hTm hTs hMl
  rintro m ⟨t,b⟩ ⟨qk,qi,Ls,h,h4,h6,hb6,hr6,hTs⟩
  simp only at h h4 h6 hb6 hr6 hTs
  have hKl1 : (memK ([118,101,114,105,102,105,99,97,116,105,111,110,77,101,116,104,111,100] : List UInt8) (D.methods.map methJ)).length ≤ 1 := by unfold memK; split <;> simp
  have hJl1 : (memI (D.methods.map methJ)).length ≤ 1 := by unfold memI; split <;> simp
  have hKl' : (Ks ++ memK ([118,101,114,105,102,105,99,97,116,105,111,110,77,101,116,104,111,100] : List UInt8) (D.methods.map methJ)).length ≤ 4 := by rw [List.length_append]; omega
  have hJl' : (Js ++ memI (D.methods.map methJ)).length ≤ 4 := by rw [List.length_append]; omega
  have hKs1 := keys_app (K := Ks) (key := ([118,101,114,105,102,105,99,97,116,105,111,110,77,101,116,104,111,100] : List UInt8)) (L := D.methods.map methJ) hKs0 (by decide)
  generalize Ks ++ memK ([118,101,114,105,102,105,99,97,116,105,111,110,77,101,116,104,111,100] : List UInt8) (D.methods.map methJ) = Ks at h hKl' hE hKs1
  generalize Js ++ memI (D.methods.map methJ) = Js at h hJl' hE
  refine vcS_cutS 2000 (fun σ => ∃ qk qi Ls,ES bs [.str D.id,xa,xc,xm,xs] qk qi (Ks ++ memK ([115,101,114,118,105,99,101] : List UInt8) (D.services.map servJ)) Ls (Js ++ memI (D.services.map servJ)) σ.t σ.b) ?_ (fun k' hk' => ?_)
  rotate_left
  · have o5 := hr6.one
    obtain ⟨b1,hsc,h1,hj,hl1,hk1⟩ := h.dull hr6 hTs (by omega)
    have hLl1 := h1.js.len
    have hput := hsc _ _ _ (sc_dd_putJ h1.ob h1.js (by omega) (by omega) ([115,101,114,118,105,99,101] : List UInt8) hj)
    unfold tv at hput
    simp only [lawG,↓Xn,↓Xo,↓Xg,↓Xd,↓Xe,↓Xf,Tryz.VΓ,Tryz.Γs,Xp,Xi,Nat.reduceAdd,Nat.reduceSub,Nat.reduceLT,Nat.reduceLeDiff,reduceIte,reduceCtorEq,Nat.reduceEqDiff,implies_true,forall_const,lawV,lawA,beq_self_eq_true,bne_self_eq_false,Int.reduceBEq,Int.reduceBNe,Int.reduceLT,Int.reduceLE,h4,h6,hb6,o5]
    refine callV_sc hput ?_
    rintro r b2 ⟨rfl,qk',qi',Ls',g1,g2,g3,g4,g5⟩
    simp only [lawG,↓Xn,↓Xo,↓Xg,↓Xd,↓Xe,↓Xf,Tryz.VΓ,Tryz.Γs,Xp,Xi,Nat.reduceAdd,Nat.reduceSub,Nat.reduceLT,Nat.reduceLeDiff,reduceIte,reduceCtorEq,Nat.reduceEqDiff,implies_true,forall_const,lawV,lawA,beq_self_eq_true,bne_self_eq_false,Int.reduceBEq,Int.reduceBNe,Int.reduceLT,Int.reduceLE]
    refine hk' _ _ ?_
    exact ⟨qk',qi',Ls',(h1.put g1 g2 g3 g4 g5).mv ⟨rfl,rfl,rfl⟩⟩
  clear h h4 h6 hb6 hr6 hTs
  rintro m ⟨t,b⟩ ⟨qk,qi,Ls,h⟩
  simp only at h
  have hKl2 : (memK ([115,101,114,118,105,99,101] : List UInt8) (D.services.map servJ)).length ≤ 1 := by unfold memK; split <;> simp
  have hJl2 : (memI (D.services.map servJ)).length ≤ 1 := by unfold memI; split <;> simp
  have hKl3 : (Ks ++ memK ([115,101,114,118,105,99,101] : List UInt8) (D.services.map servJ)).length ≤ 5 := by rw [List.length_append]; omega
  have hJl3 : (Js ++ memI (D.services.map servJ)).length ≤ 5 := by rw [List.length_append]; omega
  have hKs3 := keys_app (K := Ks) (key := ([115,101,114,118,105,99,101] : List UInt8)) (L := D.services.map servJ) hKs1 (by decide)
  generalize Ks ++ memK ([115,101,114,118,105,99,101] : List UInt8) (D.services.map servJ) = Ks at h hKl3 hE hKs3
  generalize Js ++ memI (D.services.map servJ) = Js at h hJl3 hE
  have m2 := h.l2
  have m3 := h.l3
  have hb1 := h.b1
  have hbq := h.ob.bq
  have hl1 := (List.getElem?_eq_some_iff.1 hb1).1
  have hg1 : ∀ X,(b.set (bs.length + 1) X)[bs.length + 1]? = some X := fun X => List.getElem?_set_self hl1
  simp only [lawG,↓Xn,↓Xo,↓Xg,↓Xd,↓Xe,↓Xf,Tryz.VΓ,Tryz.Γs,Xp,Xi,Nat.reduceAdd,Nat.reduceSub,Nat.reduceLT,Nat.reduceLeDiff,reduceIte,reduceCtorEq,Nat.reduceEqDiff,implies_true,forall_const,lawV,lawA,beq_self_eq_true,bne_self_eq_false,Int.reduceBEq,Int.reduceBNe,Int.reduceLT,Int.reduceLE,m2,m3,hb1,hbq,hg1]
  have hkp := kp_set1 h.kp (i := bs.length + 1) (by omega) (.cells [.int .i64 7,.str [],.o qk Ks.length,.o qi Ls.length] 25 true)
  have hro := (AS.setp.ro_p hb1 (.cells [.int .i64 7,.str [],.o qk Ks.length,.o qi Ls.length] 25 true)).trans (dimB_dim hkp.1).ro
  have hLl := h.js.len
  have hk4 := h.hk
  have hi4 := h.hi
  refine ⟨hkp.1,⟨7,[],.o qk Ks.length,.o qi Ls.length⟩,rfl,hkp.dimB,?_⟩
  rw [hE]
  refine TJ.mk' rfl rfl (by simp [Jv.t]) (.inr ⟨qk,rfl,?_⟩) (by simp only [Jv.K]; omega) hKs3 (by simp only [Jv.L]; omega) ⟨Ls,.inr ⟨qi,rfl,?_⟩,h.js.ro hro⟩
  · rw [dimB_at (by omega) (get_setN h.ob.bk (by omega) _)]; rfl
  · rw [dimB_at (by omega) (get_setN h.ob.bi (by omega) _)]; rfl
end Go.Proofs.YtejfjmcjicpodaaGreatDoor
/- ref16 on trees,exactly: With,Array. -/
set_option linter.all false
set_option maxRecDepth 20000
namespace Go.Proofs.YtejfjmcjicpodaaGreatDoor
open Go Vc Go.RowKit Wf
set_option linter.unusedSimpArgs false
theorem ob_WithJ {bs : List Res} {v x : Tv} {K : List Bytes} {J : List Jv} {j : Jv} (hv : TJ bs (.mk 7 [] K J) v) (hK : K.length ≤ 900) (hJ : J.length ≤ 900) (hKs : ∀ s ∈ K,s.length ≤ 140737488355328) (key : Bytes) (hk : key.length ≤ 140737488355328) (hx : TJ bs j x) :
    ∃ v' A B,TJ (bs ++ [A,B]) (.mk 7 [] (K ++ [key]) (J ++ [j])) v' ∧ SC Tryz.V 50 [.agg (tv v),.str key,.agg (tv x)] bs (fun r b => r = .agg (tv v') ∧ b = bs ++ [A,B]) := by
  have hxi := hx.tin
  have hvi := hv.tin
  obtain ⟨e1,e2,-,h3,-,-,-,L,h4,h5⟩ := hv.un
  have h8 := h5.tin
  have hl5 := h5.len
  simp only [Jv.k,Jv.t,Jv.K,Jv.L] at e1 e2 h3 h5 hl5
  obtain ⟨w1,w2,-,-⟩ := hvi
  have hr : Ro bs (bs ++ [.own ((K ++ [key]).map SV.str) 9 1 (K ++ [key]).length false,.own ((L ++ [x]).flatMap tv) 25 4 (L ++ [x]).length false]) := (Ro.refl bs).app _
  refine ⟨⟨v.k,v.t,.o bs.length (K ++ [key]).length,.o (bs.length + 1) (L ++ [x]).length⟩,.own ((K ++ [key]).map SV.str) 9 1 (K ++ [key]).length false,.own ((L ++ [x]).flatMap tv) 25 4 (L ++ [x]).length false,TJ.mk' e1 e2 (by simp [Jv.t]) (.inr ⟨_,rfl,app_at0 _ _⟩) (by simp [Jv.K]; omega) (fun s hs => ?_) (by simp [Jv.L]; omega) ⟨L ++ [x],.inr ⟨_,rfl,app_at _ _ 1⟩,(h5.ro hr).app (tjs_cons (hx.ro hr) (tjs_nil _))⟩,SC.pick (SC.mono (R := WithR bs v x K L key) ?_ (fun r b h => h.pick hxi (fun y hy => h8 y hy)))⟩
  · rcases List.mem_append.1 hs with hs | hs
    · exact hKs s hs
    · rw [List.mem_singleton.1 hs]; exact hk
  have s1 := fun X => sc_r16_with (bs := bs ++ X) (h3.ro ((Ro.refl bs).app _)) (h4.ro ((Ro.refl bs).app _)) (by omega) (by omega) key (hxi.up (by simp)) (fun y hy => (h8 y hy).up (by simp))
  obtain ⟨x1,x2,x3,x4⟩ := hxi
  refine sc_of 3000 Tryz.func50 rfl Tryz.ntmps50 Tryz.results50 Tryz.call50 (by simp) (fun β β' hb => concL_within bs.length _ (by simp [within,within.withinL,tv,w1,w2,x1,x2]) β β' hb) ?_
  unfold tv at s1 ⊢
  simp only [lawG,↓Xn,↓Xo,↓Xg,↓Xd,↓Xe,↓Xf,Tryz.VΓ,Tryz.Γs,Xp,Xi,Nat.reduceAdd,Nat.reduceSub,Nat.reduceLT,Nat.reduceLeDiff,reduceIte,reduceCtorEq,Nat.reduceEqDiff,implies_true,forall_const,lawV,lawA,beq_self_eq_true,bne_self_eq_false,Int.reduceBEq,Int.reduceBNe,Int.reduceLT,Int.reduceLE]
  refine callV_sc (s1 _) ?_
  rintro r b ⟨rfl,rfl⟩
  simp only [lawG,↓Xn,↓Xo,↓Xg,↓Xd,↓Xe,↓Xf,Tryz.VΓ,Tryz.Γs,Xp,Xi,Nat.reduceAdd,Nat.reduceSub,Nat.reduceLT,Nat.reduceLeDiff,reduceIte,reduceCtorEq,Nat.reduceEqDiff,implies_true,forall_const,lawV,lawA,beq_self_eq_true,bne_self_eq_false,Int.reduceBEq,Int.reduceBNe,Int.reduceLT,Int.reduceLE]
  refine ⟨bs.length + 3,bs.length + 4,false,false,(Kp.refl bs).app _,by omega,by omega,?_,?_,by simp [tv]⟩
  · rw [app_at]; simp
  · rw [app_at]; simp; rfl
theorem txt_tjs (b : List Res) : ∀ {L : List Bytes},(∀ s ∈ L,s.length ≤ 140737488355328) → TJs b (L.map Jv.str) (L.map txt)
  | [],_ => by simp [TJs]
  | s :: L,h => by
    rw [List.map_cons,List.map_cons,TJs]
    exact ⟨txt s,L.map txt,rfl,TJ.text b s (h s (by simp)),txt_tjs b fun x hx => h x (by simp [hx])⟩
theorem ar_ArrayJ {bs : List Res} {x : SV} {L : List Bytes} (hx : Rs bs x L) (hL : L.length ≤ 1100000) (hs : ∀ s ∈ L,s.length ≤ 140737488355328) : ∃ v' A,TJ (bs ++ [A]) (arrS L) v' ∧ SC Tryz.V 53 [x] bs (fun r b => r = .agg (tv v') ∧ b = bs ++ [A]) := by
  by_cases h0 : L = []
  · subst h0
    refine ⟨⟨6,[],.nils,.nils⟩,.gone,TJ.mk' rfl rfl (by simp [Jv.t,arrS]) (.inl ⟨rfl,rfl⟩) (by simp [Jv.K,arrS]) (by simp [Jv.K,arrS]) (by simp [Jv.L,arrS]) ⟨[],.inl ⟨rfl,rfl⟩,by simp [Jv.L,TJs,arrS]⟩,SC.pick ((sc_ArrR hx (by omega)).mono ?_)⟩
    rintro r b ⟨y,hk,rfl,⟨rfl,-⟩ | ⟨q,m,h0,-⟩⟩
    · exact gone_pick (P := fun r b => r = .agg (tv ⟨6,[],.nils,.nils⟩) ∧ b = bs ++ [.gone]) hk (by simp [within,within.withinL,tv]) 1 ⟨rfl,rfl⟩
    · exact absurd h0 (by simp)
  · refine ⟨⟨6,[],.nils,.o bs.length L.length⟩,.own ((L.map txt).flatMap tv) 25 4 L.length false,TJ.mk' rfl rfl (by simp [Jv.t,arrS]) (.inl ⟨rfl,rfl⟩) (by simp [Jv.K,arrS]) (by simp [Jv.K,arrS]) (by simp only [Jv.L,arrS,List.length_map]; omega) ⟨L.map txt,.inr ⟨bs.length,by simp,by rw [app_at0]; simp⟩,txt_tjs _ hs⟩,SC.pick ((sc_ArrR hx (by omega)).mono ?_)⟩
    · rintro r b ⟨y,hk,rfl,⟨-,hn⟩ | ⟨q,m,h0,rfl,hq,hbq⟩⟩
      · exact absurd hn h0
      · have hρ : ∀ k,k < bs.length → (fun i => if i = bs.length then q else i) k = k := fun k hk => by
          show (if k = bs.length then q else k) = k
          rw [if_neg (by omega)]
        have w2 : ∀ m,within.withinL m ((L.map txt).flatMap tv) = true := fun m => TvIn.all (fun y hy => by
          obtain ⟨s,h1,rfl⟩ := List.mem_map.1 hy
          exact ⟨rfl,rfl,rfl,rfl⟩)
        refine ⟨fun i => if i = bs.length then q else i,[.own ((L.map txt).flatMap tv) 25 4 L.length false],_,hk,hρ,?_,?_,?_,rfl,rfl⟩
        · rintro p X hp
          match p,hp with
          | 0,hp =>
            cases hp
            refine .inr ⟨_,_,_,_,m,rfl,?_,?_,w2 _⟩
            · simpa using hq
            · rw [renL_within hρ _ (w2 _)]; simpa using hbq
        · simp [ren,renL,tv]
        · simp [within,within.withinL,tv]
theorem p_r17_objectJ : PC Tryz.V 51 [] (.agg (tv ⟨7,[],.nils,.nils⟩)) := by
  refine pc_of 3000 Tryz.func51 rfl Tryz.ntmps51 Tryz.results51 Tryz.call51 (by simp) (by simp [flat,flat.flatL]) (by simp [flat,flat.flatL,tv]) ?_
  unfold tv
  simp only [lawG,↓Xn,↓Xo,↓Xg,↓Xd,↓Xe,↓Xf,Tryz.VΓ,Tryz.Γs,Xp,Xi,Nat.reduceAdd,Nat.reduceSub,Nat.reduceLT,Nat.reduceLeDiff,reduceIte,reduceCtorEq,Nat.reduceEqDiff,implies_true,forall_const,lawV]
theorem TJ.empty (b : List Res) : TJ b (.mk 7 [] [] []) ⟨7,[],.nils,.nils⟩ := TJ.mk' rfl rfl (by simp [Jv.t]) (.inl ⟨rfl,rfl⟩) (by simp [Jv.K]) (by simp [Jv.K]) (by simp [Jv.L]) ⟨[],.inl ⟨rfl,rfl⟩,tjs_nil b⟩
end Go.Proofs.YtejfjmcjicpodaaGreatDoor
/- ref17.Encode,exactly. -/
set_option linter.all false
set_option maxRecDepth 20000
namespace Go.Proofs.YtejfjmcjicpodaaGreatDoor
open Go Vc Go.RowKit Wf
set_option linter.unusedSimpArgs false
structure FQ (bs : List Res) (dc : List SV) (q : Nat) (Ks : List Bytes) (Js : List Jv) (v : Tv) (t : List (Nat × SV)) (b : List Res) : Prop where
  l1 : lk 1 t = some (.p bs.length 0)
  l2 : lk 2 t = some (.p (bs.length + 1) 0)
  l3 : lk 3 t = some (.p q 0)
  kp : Kp bs b
  b0 : b[bs.length]? = some (.cells dc 34 true)
  b1 : b[bs.length + 1]? = some (.cells [.int .i64 0,.str [],.nils,.nils] 25 true)
  hq : bs.length + 1 < q
  bq : b[q]? = some (.cells (tv v) 25 true)
  tj : TJ b (.mk 7 [] Ks Js) v
section
variable {bs : List Res} {dc : List SV} {q : Nat} {Ks : List Bytes} {Js : List Jv} {v : Tv} {t t' : List (Nat × SV)} {b b' : List Res}
theorem FQ.mv (h : FQ bs dc q Ks Js v t b) (e : SE t t') : FQ bs dc q Ks Js v t' b := { h with l1 := e.1.trans h.l1,l2 := e.2.1.trans h.l2,l3 := e.2.2.trans h.l3 }
theorem FQ.kpp (h : FQ bs dc q Ks Js v t b) (g : Kp b b') : FQ bs dc q Ks Js v t b' := { h with kp := h.kp.trans g,b0 := g.at h.b0,b1 := g.at h.b1,bq := g.at h.bq,tj := h.tj.ro g.ro }
theorem Ro.grow' {b : List Res} (l l2 : List Res) : Ro (b ++ l) (b ++ (l ++ l2)) := by
  rw [← List.append_assoc]
  exact (Ro.refl _).app _
theorem ro_setL {b : List Res} {q : Nat} {c : List SV} {T : TypeId} {m : Bool} (hq : b[q]? = some (.cells c T m)) (X : Res) (l : List Res) : Ro (b ++ l) (b.set q X ++ l) := by
  rw [← app_setL (List.getElem?_eq_some_iff.1 hq).1]
  exact AS.setp.ro_p (at_old hq l) X
theorem FQ.put (h : FQ bs dc q Ks Js v t b) {l : List Res} {v' : Tv} {Ks' : List Bytes} {Js' : List Jv} (hj : TJ (b ++ l) (.mk 7 [] Ks' Js') v') : FQ bs dc q Ks' Js' v' t (b.set q (.cells (tv v') 25 true) ++ l) := by
  have hq := h.hq
  exact { h with kp := (kp_set1 h.kp (by omega) _).app _,b0 := at_old (get_setN h.b0 (by omega) _) _,b1 := at_old (get_setN h.b1 (by omega) _) _,bq := get_setS (List.getElem?_eq_some_iff.1 h.bq).1 _ _,tj := hj.ro (ro_setL h.bq _ _) }
theorem FQ.re (h : FQ bs dc q Ks Js v t b) {q5 : Nat} {y : SV} (hl : b.length ≤ b'.length) (hq5 : q < q5) (hy : ∀ i n,y = .o i n → q < i ∧ ∃ c e s z,b[i]? = some (.own c e s z true)) (h5 : ∃ c T m,b[q5]? = some (.cells c T m)) (hkeep : ∀ i r,b[i]? = some r → i ≠ q5 → (∀ n,y ≠ .o i n) → b'[i]? = some r) : FQ bs dc q Ks Js v t b' := by
  have hq := h.hq
  refine { h with kp := ⟨Nat.le_trans h.kp.1 hl,fun i hx => ?_⟩,b0 := hkeep _ _ h.b0 (by omega) (fun n e => by have := (hy _ _ e).1; omega),b1 := hkeep _ _ h.b1 (by omega) (fun n e => by have := (hy _ _ e).1; omega),bq := hkeep _ _ h.bq (by omega) (fun n e => by have := (hy _ _ e).1; omega),tj := h.tj.ro (fun i c e s n hi => hkeep i _ hi ?_ (fun k e => ?_)) }
  · have e := h.kp.2 i hx
    rw [List.getElem?_eq_getElem hx] at e ⊢
    exact hkeep i _ e (by omega) (fun k e => by have := (hy _ _ e).1; omega)
  · rintro rfl
    obtain ⟨_,_,_,h6⟩ := h5
    rw [hi] at h6; cases h6
  · obtain ⟨-,_,_,_,_,h1⟩ := hy _ _ e
    rw [hi] at h1; cases h1
end
def RV (n : Nat) (b : List Res) (y : SV) (Ms : List Tv) : Prop := (y = .nils ∧ Ms = []) ∨ ∃ q,0 < Ms.length ∧ y = .o q Ms.length ∧ n < q ∧ b[q]? = some (.own (Ms.flatMap tv) 25 4 Ms.length true)
theorem RV.own {n : Nat} {b : List Res} {y : SV} {Ms : List Tv} (h : RV n b y Ms) : ∀ i k,y = .o i k → n < i ∧ ∃ c e s z,b[i]? = some (.own c e s z true) := fun i k e => by
  rcases h with ⟨rfl,-⟩ | ⟨q,h1,rfl,h3,h4⟩
  · cases e
  · cases e; exact ⟨h3,_,_,_,_,h4⟩
theorem RV.one {n : Nat} {b : List Res} {y : SV} {Ms : List Tv} (h : RV n b y Ms) : Vc.one y = true := by
  rcases h with ⟨rfl,-⟩ | ⟨q,-,rfl,-⟩ <;> rfl
theorem RV.len {n : Nat} {b : List Res} {y : SV} {Ms : List Tv} (h : RV n b y Ms) (e : TypeId) : lenS (.slice e) y = some (.int .i64 Ms.length) := by
  rcases h with ⟨rfl,rfl⟩ | ⟨q,-,rfl,-⟩ <;> rfl
theorem RV.ro {n : Nat} {b b' : List Res} {y : SV} {Ms : List Tv} (h : RV n b y Ms) {q5 : Nat} {c : List SV} {T : TypeId} {m : Bool} (h5 : b[q5]? = some (.cells c T m)) (hkeep : ∀ i r,b[i]? = some r → i ≠ q5 → (∀ n,y ≠ .o i n) → b'[i]? = some r) : Ro b b' := fun i c e s n hi => hkeep i _ hi (by rintro rfl; rw [h5] at hi; cases hi) (fun k e => by
  obtain ⟨-,_,_,_,_,h1⟩ := h.own _ _ e
  rw [hi] at h1; cases h1)
structure FL (bs : List Res) (dc : List SV) (q : Nat) (Ks : List Bytes) (Js : List Jv) (v : Tv) (q4 : Nat) (y : SV) (Ms : List Tv) (t : List (Nat × SV)) (b : List Res) : Prop where
  fs : FQ bs dc q Ks Js v t b
  l4 : lk 4 t = some (.p q4 0)
  h4 : q < q4
  b4 : b[q4]? = some (.cells [.int .i64 6,.str [],.nils,y] 25 true)
  r4 : RV q b y Ms
section
variable {bs : List Res} {dc : List SV} {q : Nat} {Ks : List Bytes} {Js : List Jv} {v : Tv} {q4 : Nat} {y : SV} {Ms : List Tv} {t t' : List (Nat × SV)} {b b' : List Res}
theorem FL.mv (h : FL bs dc q Ks Js v q4 y Ms t b) (e : SE t t') (e4 : lk 4 t' = lk 4 t) : FL bs dc q Ks Js v q4 y Ms t' b := { h with fs := h.fs.mv e,l4 := e4.trans h.l4 }
theorem FL.re (h : FL bs dc q Ks Js v q4 y Ms t b) (hl : b.length ≤ b'.length) (hkeep : ∀ i r,b[i]? = some r → i ≠ q4 → (∀ n,y ≠ .o i n) → b'[i]? = some r) {y' : SV} {Ms' : List Tv} (hb : b'[q4]? = some (.cells [.int .i64 6,.str [],.nils,y'] 25 true)) (hr : RV q b' y' Ms') : FL bs dc q Ks Js v q4 y' Ms' t b' :=
  { h with fs := h.fs.re hl h.h4 h.r4.own ⟨_,_,_,h.b4⟩ hkeep,b4 := hb,r4 := hr }
theorem FL.dull (h : FL bs dc q Ks Js v q4 y Ms t b) {J : List Jv} (hJ : TJs b J Ms) (hl : Ms.length ≤ 1100000) :
    ∃ b1,(∀ f args R,SC Tryz.V f args b1 R → SC Tryz.V f args b R) ∧ FQ bs dc q Ks Js v t b1 ∧ TJ b1 (.mk 6 [] [] J) ⟨6,[],.nils,y⟩ ∧ b1[q4]? = some (.cells [.int .i64 6,.str [],.nils,y] 25 true) ∧ b1.length = b.length := by
  have hlen := hJ.len
  have hr := h.r4
  rcases hr with ⟨rfl,rfl⟩ | ⟨r,g1,rfl,g3,g6⟩
  · obtain rfl : J = [] := List.length_eq_zero_iff.1 (by simpa using hlen.symm)
    exact ⟨b,fun _ _ _ h => h,h.fs,TJ.mk' rfl rfl (by simp [Jv.t]) (.inl ⟨rfl,rfl⟩) (by simp [Jv.K]) (by simp [Jv.K]) (by simp [Jv.L]) ⟨[],.inl ⟨rfl,rfl⟩,tjs_nil b⟩,h.b4,rfl⟩
  · have hkeep : ∀ (X : Res) i s,b[i]? = some s → i ≠ q4 → (∀ n,SV.o r Ms.length ≠ .o i n) → (b.set r X)[i]? = some s := fun X i s hi _ hn => get_setN hi (fun e => hn Ms.length (by rw [e])) _
    have hr4 : r ≠ q4 := by rintro rfl; rw [h.b4] at g6; cases g6
    refine ⟨b.set r (.own (Ms.flatMap tv) 25 4 Ms.length false),fun _ _ _ h => sc_dull g6 h,h.fs.re (by simp) h.h4 h.r4.own ⟨_,_,_,h.b4⟩ (hkeep _),TJ.mk' rfl rfl (by simp [Jv.t]) (.inl ⟨rfl,rfl⟩) (by simp [Jv.K]) (by simp [Jv.K]) (by simp only [Jv.L]; omega) ⟨Ms,.inr ⟨r,rfl,List.getElem?_set_self (List.getElem?_eq_some_iff.1 g6).1⟩,hJ.ro ((Ro.refl b).setT g6 _)⟩,get_setN h.b4 hr4 _,by simp⟩
end
set_option maxHeartbeats 16000000 in
theorem sc_rr_Encode {bs : List Res} {dc : List SV} {D : Docm} (hD : DocR bs dc D) (hB : DocB D) : SC Tryz.V 18 [.agg dc] bs (fun r b => ∃ v,r = .agg (tv v) ∧ Kp bs b ∧ TJ b (encM D) v) := by
  refine SC.dimAll ?_
  obtain ⟨xa,xc,xm,xs,Q,rfl,d1,d2,d3,d4,d5,d6⟩ := hD
  have hone := DocR.onesB d1 d2 d3 d4
  have w1 := d1.within
  have w2 := d2.within
  have w3 : Vc.within bs.length xm = true := by
    rcases d3 with ⟨rfl,-⟩ | ⟨j,rfl,h2⟩
    · rfl
    · have := (List.getElem?_eq_some_iff.1 h2).1
      simp [Vc.within,this]
  have w4 : Vc.within bs.length xs = true := by
    rcases d4 with ⟨rfl,-⟩ | ⟨j,rfl,h2⟩
    · rfl
    · have := (List.getElem?_eq_some_iff.1 h2).1
      simp [Vc.within,this]
  have c1 := d1.one
  have c2 := d2.one
  have c3 := d3.one
  have c4 := d4.one
  have p0 := p_r17_objectJ
  unfold tv at p0
  refine sc_of 3000 Tryz.func18 rfl Tryz.ntmps18 Tryz.results18 Tryz.call18 (by simp) (fun β β' hb => concL_within bs.length _ (by simp [within,within.withinL,w1,w2,w3,w4]) β β' hb) ?_
  refine vcS_cutS 2900 (fun σ => lk 1 σ.t = some (.p bs.length 0) ∧ lk 2 σ.t = some (.p (bs.length + 1) 0) ∧ σ.b = bs ++ [.cells [.str D.id,xa,xc,xm,xs] 34 true,.cells [.int .i64 0,.str [],.nils,.nils] 25 true]) ?_ (fun k' hk' => ?_)
  rotate_left
  · simp only [lawG,↓Xn,↓Xo,↓Xg,↓Xd,↓Xe,↓Xf,Tryz.VΓ,Tryz.Γs,Xp,Xi,Nat.reduceAdd,Nat.reduceSub,Nat.reduceLT,Nat.reduceLeDiff,reduceIte,reduceCtorEq,Nat.reduceEqDiff,implies_true,forall_const,lawV,lawA,beq_self_eq_true,bne_self_eq_false,Int.reduceBEq,Int.reduceBNe,Int.reduceLT,Int.reduceLE,hone]
    exact hk' _ _ ⟨rfl,rfl,rfl⟩
  rintro m ⟨t,b⟩ ⟨h1,h2,rfl⟩
  simp only at h1 h2
  refine vcS_cutS 2800 (fun σ => ∃ v,FQ bs [.str D.id,xa,xc,xm,xs] (bs.length + 4) [([105,100] : List UInt8)] [Jv.str D.id] v σ.t σ.b) ?_ (fun k' hk' => ?_)
  rotate_left
  · have p1 := p_r16_Text D.id
    obtain ⟨v1,A1,B1,ho1,s1⟩ := ob_WithJ (TJ.empty (bs ++ [.cells [.str D.id,xa,xc,xm,xs] 34 true,.cells [.int .i64 0,.str [],.nils,.nils] 25 true])) (by simp) (by simp) (by simp) ([105,100] : List UInt8) (by decide) (TJ.text _ D.id hB.id)
    unfold tv at p1 s1
    simp only [List.append_assoc,List.cons_append,List.nil_append] at s1 ho1
    simp only [lawG,↓Xn,↓Xo,↓Xg,↓Xd,↓Xe,↓Xf,Tryz.VΓ,Tryz.Γs,Xp,Xi,Nat.reduceAdd,Nat.reduceSub,Nat.reduceLT,Nat.reduceLeDiff,reduceIte,reduceCtorEq,Nat.reduceEqDiff,implies_true,forall_const,lawV,lawA,beq_self_eq_true,bne_self_eq_false,Int.reduceBEq,Int.reduceBNe,Int.reduceLT,Int.reduceLE,h1,h2]
    (refine callD_pc (p0) ?_; simp only [lawG,↓Xn,↓Xo,↓Xg,↓Xd,↓Xe,↓Xf,Tryz.VΓ,Tryz.Γs,Xp,Xi,Nat.reduceAdd,Nat.reduceSub,Nat.reduceLT,Nat.reduceLeDiff,reduceIte,reduceCtorEq,Nat.reduceEqDiff,implies_true,forall_const,lawV,lawA,beq_self_eq_true,bne_self_eq_false,Int.reduceBEq,Int.reduceBNe,Int.reduceLT,Int.reduceLE,h1,h2,hone])
    (refine callD_pc (p1) ?_; simp only [lawG,↓Xn,↓Xo,↓Xg,↓Xd,↓Xe,↓Xf,Tryz.VΓ,Tryz.Γs,Xp,Xi,Nat.reduceAdd,Nat.reduceSub,Nat.reduceLT,Nat.reduceLeDiff,reduceIte,reduceCtorEq,Nat.reduceEqDiff,implies_true,forall_const,lawV,lawA,beq_self_eq_true,bne_self_eq_false,Int.reduceBEq,Int.reduceBNe,Int.reduceLT,Int.reduceLE])
    refine callD_scw [(bs.length + 2,0,0),(bs.length + 3,0,0)] s1 (outs2L [_,_] rfl rfl _ _) ?_
    obtain ⟨-,-,x3,x4⟩ := ho1.tin
    have o1 : (one v1.xk && one v1.xi) = true := by rw [x3,x4]; rfl
    simp only [lawG,↓Xn,↓Xo,↓Xg,↓Xd,↓Xe,↓Xf,Tryz.VΓ,Tryz.Γs,Xp,Xi,Nat.reduceAdd,Nat.reduceSub,Nat.reduceLT,Nat.reduceLeDiff,reduceIte,reduceCtorEq,Nat.reduceEqDiff,implies_true,forall_const,lawV,lawA,beq_self_eq_true,bne_self_eq_false,Int.reduceBEq,Int.reduceBNe,Int.reduceLT,Int.reduceLE,o1]
    refine ⟨by (refine OkD_ren (fun n => n - bs.length) ?_; simp only [List.map_cons,List.map_nil,renRk,renT,Nat.add_sub_cancel_left,Nat.sub_self,if_true]; exact OkD_fast (by kernel_rfl)),hk' _ _ ?_⟩
    exact ⟨v1,h1,h2,rfl,(Kp.refl bs).app _,app_at0 _ _,app_at _ _ 1,by omega,app_at _ _ 4,ho1.ro (Ro.grow' _ _)⟩
  clear h1 h2
  rintro m ⟨t,b⟩ ⟨v,h⟩
  simp only at h
  generalize bs.length + 4 = q at h
  refine vcS_cutS 2700 (fun σ => ∃ v,FQ bs [.str D.id,xa,xc,xm,xs] q ([([105,100] : List UInt8)] ++ memK ([97,108,115,111,75,110,111,119,110,65,115] : List UInt8) (D.also.map Jv.str)) ([Jv.str D.id] ++ memI (D.also.map Jv.str)) v σ.t σ.b) ?_ (fun k' hk' => ?_)
  rotate_left
  · have m1 := h.l1
    have m3 := h.l3
    have hb0 := h.b0
    have hbq := h.bq
    have hlx := (d1).len' 9
    by_cases h0 : D.also.length = 0
    · have hc : decide ((0 : Int) < D.also.length) = false := decide_eq_false (by omega)
      simp only [lawG,↓Xn,↓Xo,↓Xg,↓Xd,↓Xe,↓Xf,Tryz.VΓ,Tryz.Γs,Xp,Xi,Nat.reduceAdd,Nat.reduceSub,Nat.reduceLT,Nat.reduceLeDiff,reduceIte,reduceCtorEq,Nat.reduceEqDiff,implies_true,forall_const,lawV,lawA,beq_self_eq_true,bne_self_eq_false,Int.reduceBEq,Int.reduceBNe,Int.reduceLT,Int.reduceLE,m1,hb0,c1,hlx,hc]
      refine hk' _ _ ?_
      refine ⟨v,?_⟩
      unfold memK memI
      rw [if_pos (by simpa using h0),if_pos (by simpa using h0),List.append_nil,List.append_nil]
      exact h.mv ⟨rfl,rfl,rfl⟩
    · have hc : decide ((0 : Int) < D.also.length) = true := decide_eq_true (by omega)
      obtain ⟨vA,C,hA,s2⟩ := ar_ArrayJ ((d1).ro h.kp.ro) hB.also.1 hB.also.2
      obtain ⟨v',X2,X3,hv',s3⟩ := ob_WithJ (bs := b ++ [C]) (h.tj.ro ((Ro.refl b).app [C])) (by simp) (by simp) (fun s hs => by rw [List.mem_singleton] at hs; rw [hs]; decide) ([97,108,115,111,75,110,111,119,110,65,115] : List UInt8) (by decide) hA
      have hnew := h.put (l := [C,X2,X3]) (by simpa using hv')
      have hql := (List.getElem?_eq_some_iff.1 hbq).1
      have hset : ∀ (l : List Res) X,(b ++ l).set q X = b.set q X ++ l := fun l X => app_setL hql l X
      obtain ⟨-,-,x3,x4⟩ := h.tj.tin
      have o1 : (one v.xk && one v.xi) = true := by rw [x3,x4]; rfl
      obtain ⟨-,-,x3,x4⟩ := hv'.tin
      have o2 : (one v'.xk && one v'.xi) = true := by rw [x3,x4]; rfl
      simp only [List.append_assoc,List.cons_append,List.nil_append] at s3
      unfold tv at s2 s3 hbq hnew
      simp only [lawG,↓Xn,↓Xo,↓Xg,↓Xd,↓Xe,↓Xf,Tryz.VΓ,Tryz.Γs,Xp,Xi,Nat.reduceAdd,Nat.reduceSub,Nat.reduceLT,Nat.reduceLeDiff,reduceIte,reduceCtorEq,Nat.reduceEqDiff,implies_true,forall_const,lawV,lawA,beq_self_eq_true,bne_self_eq_false,Int.reduceBEq,Int.reduceBNe,Int.reduceLT,Int.reduceLE,m1,m3,hb0,hbq,c1,hlx,hc,o1]
      refine callD_scw [(b.length,0,0)] s2 (outs1 rfl _) ?_
      simp only [lawG,↓Xn,↓Xo,↓Xg,↓Xd,↓Xe,↓Xf,Tryz.VΓ,Tryz.Γs,Xp,Xi,Nat.reduceAdd,Nat.reduceSub,Nat.reduceLT,Nat.reduceLeDiff,reduceIte,reduceCtorEq,Nat.reduceEqDiff,implies_true,forall_const,lawV,lawA,beq_self_eq_true,bne_self_eq_false,Int.reduceBEq,Int.reduceBNe,Int.reduceLT,Int.reduceLE,m1,m3,at_old hbq,hset]
      refine callD_scw [(b.length + 1,0,0),(b.length + 2,0,0)] s3 (outs2L [_] rfl rfl _ _) ?_
      simp only [lawG,↓Xn,↓Xo,↓Xg,↓Xd,↓Xe,↓Xf,Tryz.VΓ,Tryz.Γs,Xp,Xi,Nat.reduceAdd,Nat.reduceSub,Nat.reduceLT,Nat.reduceLeDiff,reduceIte,reduceCtorEq,Nat.reduceEqDiff,implies_true,forall_const,lawV,lawA,beq_self_eq_true,bne_self_eq_false,Int.reduceBEq,Int.reduceBNe,Int.reduceLT,Int.reduceLE,m1,m3,at_old hbq,hset,o2]
      have hqq := h.hq
      have z0 : ∀ m,(b.length + m = q) = False := fun m => eq_false (by omega)
      have z1 : (b.length = q) = False := eq_false (by omega)
      have z2 : ∀ m,(b.length + m = bs.length) = False := fun m => eq_false (by omega)
      have z3 : (b.length = bs.length) = False := eq_false (by omega)
      have z4 : (bs.length = q) = False := eq_false (by omega)
      refine ⟨?_,hk' _ _ ?_⟩
      · refine OkD_ren (fun n => if n = q then 100 else if n = bs.length then 101 else n - b.length) ?_
        simp only [List.map_cons,List.map_nil,renRk,renT,Nat.add_sub_cancel_left,Nat.sub_self,z0,z1,z2,z3,z4,eq_self,if_true,if_false]
        exact OkD_fast (by kernel_rfl)
      · refine ⟨v',?_⟩
        unfold memK memI
        rw [if_neg (by simpa using h0),if_neg (by simpa using h0)]
        exact hnew.mv ⟨rfl,rfl,rfl⟩
  clear h
  rintro m ⟨t,b⟩ ⟨v,h⟩
  simp only at h
  have hKs0 := keys_app (K := [([105,100] : List UInt8)]) (key := ([97,108,115,111,75,110,111,119,110,65,115] : List UInt8)) (L := D.also.map Jv.str) (fun s hs => by rw [List.mem_singleton] at hs; rw [hs]; decide) (by decide)
  have hKl : ([([105,100] : List UInt8)] ++ memK ([97,108,115,111,75,110,111,119,110,65,115] : List UInt8) (D.also.map Jv.str)).length ≤ 2 := by unfold memK; split <;> simp
  have hJl : ([Jv.str D.id] ++ memI (D.also.map Jv.str)).length ≤ 2 := by unfold memI; split <;> simp
  have hE : encM D = .mk 7 [] ([([105,100] : List UInt8)] ++ memK ([97,108,115,111,75,110,111,119,110,65,115] : List UInt8) (D.also.map Jv.str) ++ memK ([99,111,110,116,114,111,108,108,101,114] : List UInt8) (D.ctrl.map Jv.str) ++ memK ([118,101,114,105,102,105,99,97,116,105,111,110,77,101,116,104,111,100] : List UInt8) (D.methods.map methJ) ++ memK ([115,101,114,118,105,99,101] : List UInt8) (D.services.map servJ)) ([Jv.str D.id] ++ memI (D.also.map Jv.str) ++ memI (D.ctrl.map Jv.str) ++ memI (D.methods.map methJ) ++ memI (D.services.map servJ)) := rfl
  generalize encM D = JE at hE ⊢
  generalize [([105,100] : List UInt8)] ++ memK ([97,108,115,111,75,110,111,119,110,65,115] : List UInt8) (D.also.map Jv.str) = Ks at h hKl hE hKs0
  generalize [Jv.str D.id] ++ memI (D.also.map Jv.str) = Js at h hJl hE
  refine vcS_cutS 2600 (fun σ => ∃ v,FQ bs [.str D.id,xa,xc,xm,xs] q (Ks ++ memK ([99,111,110,116,114,111,108,108,101,114] : List UInt8) (D.ctrl.map Jv.str)) (Js ++ memI (D.ctrl.map Jv.str)) v σ.t σ.b) ?_ (fun k' hk' => ?_)
  rotate_left
  · have m1 := h.l1
    have m3 := h.l3
    have hb0 := h.b0
    have hbq := h.bq
    have hlx := (d2).len' 9
    by_cases h0 : D.ctrl.length = 0
    · have hc : decide ((0 : Int) < D.ctrl.length) = false := decide_eq_false (by omega)
      simp only [lawG,↓Xn,↓Xo,↓Xg,↓Xd,↓Xe,↓Xf,Tryz.VΓ,Tryz.Γs,Xp,Xi,Nat.reduceAdd,Nat.reduceSub,Nat.reduceLT,Nat.reduceLeDiff,reduceIte,reduceCtorEq,Nat.reduceEqDiff,implies_true,forall_const,lawV,lawA,beq_self_eq_true,bne_self_eq_false,Int.reduceBEq,Int.reduceBNe,Int.reduceLT,Int.reduceLE,m1,hb0,c2,hlx,hc]
      refine hk' _ _ ?_
      refine ⟨v,?_⟩
      unfold memK memI
      rw [if_pos (by simpa using h0),if_pos (by simpa using h0),List.append_nil,List.append_nil]
      exact h.mv ⟨rfl,rfl,rfl⟩
    · have hc : decide ((0 : Int) < D.ctrl.length) = true := decide_eq_true (by omega)
      obtain ⟨vA,C,hA,s2⟩ := ar_ArrayJ ((d2).ro h.kp.ro) hB.ctrl.1 hB.ctrl.2
      obtain ⟨v',X2,X3,hv',s3⟩ := ob_WithJ (bs := b ++ [C]) (h.tj.ro ((Ro.refl b).app [C])) (by omega) (by omega) hKs0 ([99,111,110,116,114,111,108,108,101,114] : List UInt8) (by decide) hA
      have hnew := h.put (l := [C,X2,X3]) (by simpa using hv')
      have hql := (List.getElem?_eq_some_iff.1 hbq).1
      have hset : ∀ (l : List Res) X,(b ++ l).set q X = b.set q X ++ l := fun l X => app_setL hql l X
      obtain ⟨-,-,x3,x4⟩ := h.tj.tin
      have o1 : (one v.xk && one v.xi) = true := by rw [x3,x4]; rfl
      obtain ⟨-,-,x3,x4⟩ := hv'.tin
      have o2 : (one v'.xk && one v'.xi) = true := by rw [x3,x4]; rfl
      simp only [List.append_assoc,List.cons_append,List.nil_append] at s3
      unfold tv at s2 s3 hbq hnew
      simp only [lawG,↓Xn,↓Xo,↓Xg,↓Xd,↓Xe,↓Xf,Tryz.VΓ,Tryz.Γs,Xp,Xi,Nat.reduceAdd,Nat.reduceSub,Nat.reduceLT,Nat.reduceLeDiff,reduceIte,reduceCtorEq,Nat.reduceEqDiff,implies_true,forall_const,lawV,lawA,beq_self_eq_true,bne_self_eq_false,Int.reduceBEq,Int.reduceBNe,Int.reduceLT,Int.reduceLE,m1,m3,hb0,hbq,c2,hlx,hc,o1]
      refine callD_scw [(b.length,0,0)] s2 (outs1 rfl _) ?_
      simp only [lawG,↓Xn,↓Xo,↓Xg,↓Xd,↓Xe,↓Xf,Tryz.VΓ,Tryz.Γs,Xp,Xi,Nat.reduceAdd,Nat.reduceSub,Nat.reduceLT,Nat.reduceLeDiff,reduceIte,reduceCtorEq,Nat.reduceEqDiff,implies_true,forall_const,lawV,lawA,beq_self_eq_true,bne_self_eq_false,Int.reduceBEq,Int.reduceBNe,Int.reduceLT,Int.reduceLE,m1,m3,at_old hbq,hset]
      refine callD_scw [(b.length + 1,0,0),(b.length + 2,0,0)] s3 (outs2L [_] rfl rfl _ _) ?_
      simp only [lawG,↓Xn,↓Xo,↓Xg,↓Xd,↓Xe,↓Xf,Tryz.VΓ,Tryz.Γs,Xp,Xi,Nat.reduceAdd,Nat.reduceSub,Nat.reduceLT,Nat.reduceLeDiff,reduceIte,reduceCtorEq,Nat.reduceEqDiff,implies_true,forall_const,lawV,lawA,beq_self_eq_true,bne_self_eq_false,Int.reduceBEq,Int.reduceBNe,Int.reduceLT,Int.reduceLE,m1,m3,at_old hbq,hset,o2]
      have hqq := h.hq
      have z0 : ∀ m,(b.length + m = q) = False := fun m => eq_false (by omega)
      have z1 : (b.length = q) = False := eq_false (by omega)
      have z2 : ∀ m,(b.length + m = bs.length) = False := fun m => eq_false (by omega)
      have z3 : (b.length = bs.length) = False := eq_false (by omega)
      have z4 : (bs.length = q) = False := eq_false (by omega)
      refine ⟨?_,hk' _ _ ?_⟩
      · refine OkD_ren (fun n => if n = q then 100 else if n = bs.length then 101 else n - b.length) ?_
        simp only [List.map_cons,List.map_nil,renRk,renT,Nat.add_sub_cancel_left,Nat.sub_self,z0,z1,z2,z3,z4,eq_self,if_true,if_false]
        exact OkD_fast (by kernel_rfl)
      · refine ⟨v',?_⟩
        unfold memK memI
        rw [if_neg (by simpa using h0),if_neg (by simpa using h0)]
        exact hnew.mv ⟨rfl,rfl,rfl⟩
  clear h
  rintro m ⟨t,b⟩ ⟨v,h⟩
  simp only at h
  have hKs1 := keys_app (K := Ks) (key := ([99,111,110,116,114,111,108,108,101,114] : List UInt8)) (L := D.ctrl.map Jv.str) hKs0 (by decide)
  have hKl1 : (Ks ++ memK ([99,111,110,116,114,111,108,108,101,114] : List UInt8) (D.ctrl.map Jv.str)).length ≤ 3 := by
    have : (memK ([99,111,110,116,114,111,108,108,101,114] : List UInt8) (D.ctrl.map Jv.str)).length ≤ 1 := by unfold memK; split <;> simp
    rw [List.length_append]; omega
  have hJl1 : (Js ++ memI (D.ctrl.map Jv.str)).length ≤ 3 := by
    have : (memI (D.ctrl.map Jv.str)).length ≤ 1 := by unfold memI; split <;> simp
    rw [List.length_append]; omega
  generalize Ks ++ memK ([99,111,110,116,114,111,108,108,101,114] : List UInt8) (D.ctrl.map Jv.str) = Ks at h hKl1 hE hKs1
  generalize Js ++ memI (D.ctrl.map Jv.str) = Js at h hJl1 hE
  refine vcS_cutS 2500 (fun σ => ∃ q4,FL bs [.str D.id,xa,xc,xm,xs] q Ks Js v q4 .nils [] σ.t σ.b) ?_ (fun k' hk' => ?_)
  rotate_left
  · simp only [lawG,↓Xn,↓Xo,↓Xg,↓Xd,↓Xe,↓Xf,Tryz.VΓ,Tryz.Γs,Xp,Xi,Nat.reduceAdd,Nat.reduceSub,Nat.reduceLT,Nat.reduceLeDiff,reduceIte,reduceCtorEq,Nat.reduceEqDiff,implies_true,forall_const,lawV,lawA,beq_self_eq_true,bne_self_eq_false,Int.reduceBEq,Int.reduceBNe,Int.reduceLT,Int.reduceLE]
    have hbl := (List.getElem?_eq_some_iff.1 h.bq).1
    refine hk' _ _ ?_
    exact ⟨b.length,(h.kpp ((Kp.refl b).app [_])).mv ⟨rfl,rfl,rfl⟩,rfl,hbl,app_at0 _ _,.inl ⟨rfl,rfl⟩⟩
  clear h
  rintro m ⟨t,b⟩ ⟨q4,h⟩
  simp only at h
  refine vcS_cutS 2400 (fun σ => ∃ y Ms,FL bs [.str D.id,xa,xc,xm,xs] q Ks Js v q4 y Ms σ.t σ.b ∧ TJs σ.b (D.methods.map methJ) Ms) ?_ (fun k' hk' => ?_)
  rotate_left
  · have m1 := h.fs.l1
    have hb0 := h.fs.b0
    have hM := rm_len d3
    simp only [lawG,↓Xn,↓Xo,↓Xg,↓Xd,↓Xe,↓Xf,Tryz.VΓ,Tryz.Γs,Xp,Xi,Nat.reduceAdd,Nat.reduceSub,Nat.reduceLT,Nat.reduceLeDiff,reduceIte,reduceCtorEq,Nat.reduceEqDiff,implies_true,forall_const,lawV,lawA,beq_self_eq_true,bne_self_eq_false,Int.reduceBEq,Int.reduceBNe,Int.reduceLT,Int.reduceLE,m1,hb0,c3,hM]
    refine loopV_mk (fun σ => ∃ (k : Nat) (y : SV) (Ms : List Tv),k ≤ D.methods.length ∧ FL bs [.str D.id,xa,xc,xm,xs] q Ks Js v q4 y Ms σ.t σ.b ∧ lk 34 σ.t = some xm ∧ lk 35 σ.t = some (.int .i64 D.methods.length) ∧ lk 36 σ.t = some (.int .i64 k) ∧ Ms.length = k ∧ TJs σ.b ((D.methods.take k).map methJ) Ms) (fun σ => D.methods.length - lkI 36 σ) ⟨0,.nils,[],by omega,h.mv ⟨rfl,rfl,rfl⟩ rfl,rfl,rfl,rfl,rfl,by simp [TJs]⟩ ?_
    clear h m1 hb0
    rintro ⟨t,b⟩ ⟨k,y,Ms,hk,h,h31,h32,h33,hMl,hT⟩
    simp only at h h31 h32 h33 hT
    rw [lkI_eq h33]
    by_cases hlt : k < D.methods.length
    rotate_left
    · have hlt2 : decide ((k : Int) < D.methods.length) = false := decide_eq_false (by omega)
      simp only [lawG,↓Xn,↓Xo,↓Xg,↓Xd,↓Xe,↓Xf,Tryz.VΓ,Tryz.Γs,Xp,Xi,Nat.reduceAdd,Nat.reduceSub,Nat.reduceLT,Nat.reduceLeDiff,reduceIte,reduceCtorEq,Nat.reduceEqDiff,implies_true,forall_const,lawV,lawA,beq_self_eq_true,bne_self_eq_false,Int.reduceBEq,Int.reduceBNe,Int.reduceLT,Int.reduceLE,h31,h32,h33,hlt2]
      rw [List.take_of_length_le (by omega)] at hT
      refine hk' _ _ ?_
      exact ⟨y,Ms,h.mv ⟨rfl,rfl,rfl⟩ rfl,hT⟩
    have hlt2 : decide ((k : Int) < D.methods.length) = true := decide_eq_true (by omega)
    rcases d3 with ⟨-,hx0⟩ | ⟨i,rfl,hi⟩
    · rw [hx0] at hlt; simp at hlt
    have hbi := h.fs.kp.at hi
    have hu : List.take 3 (List.drop (k * 3) (D.methods.flatMap mc)) = [.str D.methods[k].id,.str D.methods[k].type,.str D.methods[k].ctrl] := by rw [mc_at _ k hlt]; rfl
    have hul := mc_len D.methods
    obtain ⟨n1,n2,n3⟩ := hB.m _ (List.getElem_mem hlt)
    have hT2 : (D.methods.take (k + 1)).map methJ = (D.methods.take k).map methJ ++ [methJ D.methods[k]] := by rw [List.take_succ_eq_append_getElem hlt,List.map_append]; rfl
    have hml := hB.ml
    generalize D.methods[k] = x at hu n1 n2 n3 hT2
    have p1 := p_r16_Text x.id
    have p2 := p_r16_Text x.type
    have p3 := p_r16_Text x.ctrl
    obtain ⟨u1,A1,B1,g1,s1⟩ := ob_WithJ (TJ.empty (b ++ [.cells [.str x.id,.str x.type,.str x.ctrl] 48 true])) (by simp) (by simp) (by simp) ([105,100] : List UInt8) (by decide) (TJ.text _ x.id n1)
    obtain ⟨u2,A2,B2,g2,s2⟩ := ob_WithJ g1 (by simp) (by simp) (by simp) ([116,121,112,101] : List UInt8) (by decide) (TJ.text _ x.type n2)
    obtain ⟨u9,A3,B3,hj9,s3⟩ := ob_WithJ g2 (by simp) (by simp) (by simp) ([99,111,110,116,114,111,108,108,101,114] : List UInt8) (by decide) (TJ.text _ x.ctrl n3)
    simp only [List.append_assoc,List.cons_append,List.nil_append] at s1 s2 s3 hj9
    obtain ⟨-,-,x3,x4⟩ := hj9.tin
    have o9 : (one u9.xk && one u9.xi) = true := by rw [x3,x4]; rfl
    unfold tv at p1 p2 p3 s1 s2 s3
    have m5 := h.l4
    have hb5 := h.b4
    have hb5l := (List.getElem?_eq_some_iff.1 hb5).1
    have hset : ∀ (l : List Res) X,(b ++ l).set q4 X = b.set q4 X ++ l := fun l X => app_setL hb5l l X
    have hqk := h.fs.hq
    have hq4 := h.h4
    have hk4 := h.fs.kp.1
    have z0 : ∀ m,(b.length + m = q4) = False := fun m => eq_false (by omega)
    have z1 : (b.length = q4) = False := eq_false (by omega)
    rcases h.r4 with ⟨rfl,rfl⟩ | ⟨r,hr0,rfl,hqb,hbq⟩
    · obtain rfl : k = 0 := by simpa using hMl.symm
      simp only [lawG,↓Xn,↓Xo,↓Xg,↓Xd,↓Xe,↓Xf,Tryz.VΓ,Tryz.Γs,Xp,Xi,Nat.reduceAdd,Nat.reduceSub,Nat.reduceLT,Nat.reduceLeDiff,reduceIte,reduceCtorEq,Nat.reduceEqDiff,implies_true,forall_const,lawV,lawA,beq_self_eq_true,bne_self_eq_false,Int.reduceBEq,Int.reduceBNe,Int.reduceLT,Int.reduceLE,m5,h31,h32,h33,hlt2,hbi,hu,hul,hb5,at_old hb5,hset]
      refine ⟨⟨by omega,by omega⟩,by omega,?_⟩
      (refine callD_pc (p0) ?_; simp only [lawG,↓Xn,↓Xo,↓Xg,↓Xd,↓Xe,↓Xf,Tryz.VΓ,Tryz.Γs,Xp,Xi,Nat.reduceAdd,Nat.reduceSub,Nat.reduceLT,Nat.reduceLeDiff,reduceIte,reduceCtorEq,Nat.reduceEqDiff,implies_true,forall_const,lawV,lawA,beq_self_eq_true,bne_self_eq_false,Int.reduceBEq,Int.reduceBNe,Int.reduceLT,Int.reduceLE,at_old hb5,hset])
      (refine callD_pc (p1) ?_; simp only [lawG,↓Xn,↓Xo,↓Xg,↓Xd,↓Xe,↓Xf,Tryz.VΓ,Tryz.Γs,Xp,Xi,Nat.reduceAdd,Nat.reduceSub,Nat.reduceLT,Nat.reduceLeDiff,reduceIte,reduceCtorEq,Nat.reduceEqDiff,implies_true,forall_const,lawV,lawA,beq_self_eq_true,bne_self_eq_false,Int.reduceBEq,Int.reduceBNe,Int.reduceLT,Int.reduceLE,at_old hb5,hset])
      refine callD_scw [(b.length + 1,0,0),(b.length + 2,0,0)] s1 (outs2L [_] rfl rfl _ _) ?_
      simp only [lawG,↓Xn,↓Xo,↓Xg,↓Xd,↓Xe,↓Xf,Tryz.VΓ,Tryz.Γs,Xp,Xi,Nat.reduceAdd,Nat.reduceSub,Nat.reduceLT,Nat.reduceLeDiff,reduceIte,reduceCtorEq,Nat.reduceEqDiff,implies_true,forall_const,lawV,lawA,beq_self_eq_true,bne_self_eq_false,Int.reduceBEq,Int.reduceBNe,Int.reduceLT,Int.reduceLE,at_old hb5,hset]
      (refine callD_pc (p2) ?_; simp only [lawG,↓Xn,↓Xo,↓Xg,↓Xd,↓Xe,↓Xf,Tryz.VΓ,Tryz.Γs,Xp,Xi,Nat.reduceAdd,Nat.reduceSub,Nat.reduceLT,Nat.reduceLeDiff,reduceIte,reduceCtorEq,Nat.reduceEqDiff,implies_true,forall_const,lawV,lawA,beq_self_eq_true,bne_self_eq_false,Int.reduceBEq,Int.reduceBNe,Int.reduceLT,Int.reduceLE,at_old hb5,hset])
      refine callD_scw [(b.length + 3,0,0),(b.length + 4,0,0)] s2 (outs2L [_,_,_] rfl rfl _ _) ?_
      simp only [lawG,↓Xn,↓Xo,↓Xg,↓Xd,↓Xe,↓Xf,Tryz.VΓ,Tryz.Γs,Xp,Xi,Nat.reduceAdd,Nat.reduceSub,Nat.reduceLT,Nat.reduceLeDiff,reduceIte,reduceCtorEq,Nat.reduceEqDiff,implies_true,forall_const,lawV,lawA,beq_self_eq_true,bne_self_eq_false,Int.reduceBEq,Int.reduceBNe,Int.reduceLT,Int.reduceLE,at_old hb5,hset]
      (refine callD_pc (p3) ?_; simp only [lawG,↓Xn,↓Xo,↓Xg,↓Xd,↓Xe,↓Xf,Tryz.VΓ,Tryz.Γs,Xp,Xi,Nat.reduceAdd,Nat.reduceSub,Nat.reduceLT,Nat.reduceLeDiff,reduceIte,reduceCtorEq,Nat.reduceEqDiff,implies_true,forall_const,lawV,lawA,beq_self_eq_true,bne_self_eq_false,Int.reduceBEq,Int.reduceBNe,Int.reduceLT,Int.reduceLE,at_old hb5,hset])
      refine callD_scw [(b.length + 5,0,0),(b.length + 6,0,0)] s3 (outs2L [_,_,_,_,_] rfl rfl _ _) ?_
      simp only [lawG,↓Xn,↓Xo,↓Xg,↓Xd,↓Xe,↓Xf,Tryz.VΓ,Tryz.Γs,Xp,Xi,Nat.reduceAdd,Nat.reduceSub,Nat.reduceLT,Nat.reduceLeDiff,reduceIte,reduceCtorEq,Nat.reduceEqDiff,implies_true,forall_const,lawV,lawA,beq_self_eq_true,bne_self_eq_false,Int.reduceBEq,Int.reduceBNe,Int.reduceLT,Int.reduceLE,m5,h31,h32,h33,at_old hb5,hset,o9]
      have hkeep : ∀ (X : Res) (l : List Res) i r,b[i]? = some r → i ≠ q4 → (∀ n,SV.nils ≠ .o i n) → (b.set q4 X ++ l)[i]? = some r := fun X l i r hi hn _ => at_old (get_setN hi (Ne.symm hn) _) _
      have hro : Ro b (b.set q4 (.cells [.int .i64 6,.str [],.nils,.o (b.length + 8) 1] 25 true)) := AS.setp.ro_p hb5 _
      refine ⟨by decide,⟨by decide,by decide⟩,?_,⟨by omega,by omega⟩,⟨1,.o (b.length + 8) 1,[u9],by omega,FL.mv (FL.re h (by simp) (hkeep _ _) (get_setS hb5l _ _) (.inr ⟨b.length + 8,by simp,rfl,by omega,app_atL (by simp) _ 8⟩)) ⟨rfl,rfl,rfl⟩ rfl,rfl,rfl,?_⟩,?_⟩
      · refine OkD_ren (fun n => if n = q4 then 100 else n - b.length) ?_
        simp only [List.map_cons,List.map_nil,renRk,renT,Nat.add_sub_cancel_left,Nat.sub_self,z0,z1,eq_self,if_true,if_false]
        exact OkD_fast (by kernel_rfl)
      · rw [hT2]
        exact tjs_cons (hj9.ro (Ro.preD hro (by simp) [_,_,_,_,_,_,_] [_,_])) (tjs_nil _)
      · rw [lkI_eq (show lk 36 _ = some (.int .i64 ((1 : Nat) : Int)) from rfl)]; omega
    · have hql := (List.getElem?_eq_some_iff.1 hbq).1
      have hsq : ∀ (l : List Res) X,(b ++ l).set r X = b.set r X ++ l := fun l X => app_setL hql l X
      have hset2 : ∀ (l : List Res) Y X,(b.set r Y ++ l).set q4 X = (b.set r Y).set q4 X ++ l := fun l Y X => app_setL (by simpa using hb5l) l X
      have hq5 : r ≠ q4 := by rintro rfl; rw [hb5] at hbq; cases hbq
      have hbq1 := fun Y => at_old (get_setN hb5 hq5 Y)
      have hr0' : 0 < k := by omega
      rw [hMl] at hbq
      simp only [lawG,↓Xn,↓Xo,↓Xg,↓Xd,↓Xe,↓Xf,Tryz.VΓ,Tryz.Γs,Xp,Xi,Nat.reduceAdd,Nat.reduceSub,Nat.reduceLT,Nat.reduceLeDiff,reduceIte,reduceCtorEq,Nat.reduceEqDiff,implies_true,forall_const,lawV,lawA,beq_self_eq_true,bne_self_eq_false,Int.reduceBEq,Int.reduceBNe,Int.reduceLT,Int.reduceLE,hMl,m5,h31,h32,h33,hlt2,hbi,hu,hul,hb5,at_old hb5,hset]
      refine ⟨⟨by omega,by omega⟩,by omega,?_⟩
      (refine callD_pc (p0) ?_; simp only [lawG,↓Xn,↓Xo,↓Xg,↓Xd,↓Xe,↓Xf,Tryz.VΓ,Tryz.Γs,Xp,Xi,Nat.reduceAdd,Nat.reduceSub,Nat.reduceLT,Nat.reduceLeDiff,reduceIte,reduceCtorEq,Nat.reduceEqDiff,implies_true,forall_const,lawV,lawA,beq_self_eq_true,bne_self_eq_false,Int.reduceBEq,Int.reduceBNe,Int.reduceLT,Int.reduceLE,at_old hb5,hset])
      (refine callD_pc (p1) ?_; simp only [lawG,↓Xn,↓Xo,↓Xg,↓Xd,↓Xe,↓Xf,Tryz.VΓ,Tryz.Γs,Xp,Xi,Nat.reduceAdd,Nat.reduceSub,Nat.reduceLT,Nat.reduceLeDiff,reduceIte,reduceCtorEq,Nat.reduceEqDiff,implies_true,forall_const,lawV,lawA,beq_self_eq_true,bne_self_eq_false,Int.reduceBEq,Int.reduceBNe,Int.reduceLT,Int.reduceLE,at_old hb5,hset])
      refine callD_scw [(b.length + 1,0,0),(b.length + 2,0,0)] s1 (outs2L [_] rfl rfl _ _) ?_
      simp only [lawG,↓Xn,↓Xo,↓Xg,↓Xd,↓Xe,↓Xf,Tryz.VΓ,Tryz.Γs,Xp,Xi,Nat.reduceAdd,Nat.reduceSub,Nat.reduceLT,Nat.reduceLeDiff,reduceIte,reduceCtorEq,Nat.reduceEqDiff,implies_true,forall_const,lawV,lawA,beq_self_eq_true,bne_self_eq_false,Int.reduceBEq,Int.reduceBNe,Int.reduceLT,Int.reduceLE,at_old hb5,hset]
      (refine callD_pc (p2) ?_; simp only [lawG,↓Xn,↓Xo,↓Xg,↓Xd,↓Xe,↓Xf,Tryz.VΓ,Tryz.Γs,Xp,Xi,Nat.reduceAdd,Nat.reduceSub,Nat.reduceLT,Nat.reduceLeDiff,reduceIte,reduceCtorEq,Nat.reduceEqDiff,implies_true,forall_const,lawV,lawA,beq_self_eq_true,bne_self_eq_false,Int.reduceBEq,Int.reduceBNe,Int.reduceLT,Int.reduceLE,at_old hb5,hset])
      refine callD_scw [(b.length + 3,0,0),(b.length + 4,0,0)] s2 (outs2L [_,_,_] rfl rfl _ _) ?_
      simp only [lawG,↓Xn,↓Xo,↓Xg,↓Xd,↓Xe,↓Xf,Tryz.VΓ,Tryz.Γs,Xp,Xi,Nat.reduceAdd,Nat.reduceSub,Nat.reduceLT,Nat.reduceLeDiff,reduceIte,reduceCtorEq,Nat.reduceEqDiff,implies_true,forall_const,lawV,lawA,beq_self_eq_true,bne_self_eq_false,Int.reduceBEq,Int.reduceBNe,Int.reduceLT,Int.reduceLE,at_old hb5,hset]
      (refine callD_pc (p3) ?_; simp only [lawG,↓Xn,↓Xo,↓Xg,↓Xd,↓Xe,↓Xf,Tryz.VΓ,Tryz.Γs,Xp,Xi,Nat.reduceAdd,Nat.reduceSub,Nat.reduceLT,Nat.reduceLeDiff,reduceIte,reduceCtorEq,Nat.reduceEqDiff,implies_true,forall_const,lawV,lawA,beq_self_eq_true,bne_self_eq_false,Int.reduceBEq,Int.reduceBNe,Int.reduceLT,Int.reduceLE,at_old hb5,hset])
      refine callD_scw [(b.length + 5,0,0),(b.length + 6,0,0)] s3 (outs2L [_,_,_,_,_] rfl rfl _ _) ?_
      simp only [lawG,↓Xn,↓Xo,↓Xg,↓Xd,↓Xe,↓Xf,Tryz.VΓ,Tryz.Γs,Xp,Xi,Nat.reduceAdd,Nat.reduceSub,Nat.reduceLT,Nat.reduceLeDiff,reduceIte,reduceCtorEq,Nat.reduceEqDiff,implies_true,forall_const,lawV,lawA,beq_self_eq_true,bne_self_eq_false,Int.reduceBEq,Int.reduceBNe,Int.reduceLT,Int.reduceLE,m5,h31,h32,h33,at_old hb5,at_old hbq,hset,hsq,hset2,hbq1,o9]
      have z2 : ∀ m,(b.length + m = r) = False := fun m => eq_false (by omega)
      have z3 : (b.length = r) = False := eq_false (by omega)
      have z4 : (r = q4) = False := eq_false hq5
      have hkeep : ∀ (X : Res) (l : List Res) i s,b[i]? = some s → i ≠ q4 → (∀ n,SV.o r k ≠ .o i n) → ((b.set r .gone).set q4 X ++ l)[i]? = some s := fun X l i s hi hn hq => at_old (get_setN (get_setN hi (fun e => hq k (by rw [e])) _) (Ne.symm hn) _) _
      have hro : Ro b ((b.set r .gone).set q4 (.cells [.int .i64 6,.str [],.nils,.o (b.length + 8) (k + 1)] 25 true)) := ((Ro.refl b).setT hbq .gone).trans (AS.setp.ro_p (get_setN hb5 hq5 _) _)
      rw [hMl] at h
      refine ⟨by decide,⟨by unfold maxLen; omega,by omega⟩,?_,⟨by omega,by omega⟩,⟨k + 1,.o (b.length + 8) (k + 1),Ms ++ [u9],by omega,FL.mv (FL.re h (by simp) (hkeep _ _) (get_setS (by simpa using hb5l) _ _) (.inr ⟨b.length + 8,by simp,by simp [hMl],by omega,?_⟩)) ⟨rfl,rfl,rfl⟩ rfl,rfl,by simp [hMl],?_⟩,?_⟩
      · refine OkD_ren (fun n => if n = q4 then 100 else if n = r then 101 else n - b.length) ?_
        simp only [List.map_cons,List.map_nil,renRk,renT,Nat.add_sub_cancel_left,Nat.sub_self,z0,z1,z2,z3,z4,eq_self,if_true,if_false]
        exact OkD_fast (by kernel_rfl)
      · rw [app_atL (by simp),List.flatMap_append]; simp [hMl,tv]
      · rw [hT2]
        exact (hT.ro (h.r4.ro hb5 (hkeep _ _))).app (tjs_cons (hj9.ro (Ro.preD hro (by simp) [_,_,_,_,_,_,_] [_,_])) (tjs_nil _))
      · rw [lkI_eq (show lk 36 _ = some (.int .i64 ((k + 1 : Nat) : Int)) from rfl)]; omega
  clear h
  rintro m ⟨t,b⟩ ⟨y,Ms,h,hT⟩
  simp only at h hT
  have hM2 := hT.len
  have hml := hB.ml
  simp only [List.length_map] at hM2
  refine vcS_cutS 2300 (fun σ => ∃ v y',FQ bs [.str D.id,xa,xc,xm,xs] q (Ks ++ memK ([118,101,114,105,102,105,99,97,116,105,111,110,77,101,116,104,111,100] : List UInt8) (D.methods.map methJ)) (Js ++ memI (D.methods.map methJ)) v σ.t σ.b ∧ lk 4 σ.t = some (.p q4 0) ∧ q < q4 ∧ σ.b[q4]? = some (.cells [.int .i64 6,.str [],.nils,y'] 25 true)) ?_ (fun k' hk' => ?_)
  rotate_left
  · have m3 := h.fs.l3
    have m4 := h.l4
    have hb4 := h.b4
    have hbq := h.fs.bq
    have oy := h.r4.one
    have hly := h.r4.len 25
    by_cases h0 : D.methods.length = 0
    · have hc : decide ((0 : Int) < Ms.length) = false := decide_eq_false (by omega)
      simp only [lawG,↓Xn,↓Xo,↓Xg,↓Xd,↓Xe,↓Xf,Tryz.VΓ,Tryz.Γs,Xp,Xi,Nat.reduceAdd,Nat.reduceSub,Nat.reduceLT,Nat.reduceLeDiff,reduceIte,reduceCtorEq,Nat.reduceEqDiff,implies_true,forall_const,lawV,lawA,beq_self_eq_true,bne_self_eq_false,Int.reduceBEq,Int.reduceBNe,Int.reduceLT,Int.reduceLE,m4,hb4,oy,hly,hc]
      refine hk' _ _ ?_
      refine ⟨v,_,?_,h.l4,h.h4,hb4⟩
      unfold memK memI
      rw [if_pos (by simpa using h0),if_pos (by simpa using h0),List.append_nil,List.append_nil]
      exact h.fs.mv ⟨rfl,rfl,rfl⟩
    · have hc : decide ((0 : Int) < Ms.length) = true := decide_eq_true (by omega)
      obtain ⟨b1,hsc,h1,hj,hb41,hl1⟩ := h.dull hT (by omega)
      obtain ⟨v',X2,X3,hv',s3⟩ := ob_WithJ h1.tj (by omega) (by omega) hKs1 ([118,101,114,105,102,105,99,97,116,105,111,110,77,101,116,104,111,100] : List UInt8) (by decide) hj
      have s3 := hsc _ _ _ s3
      have hnew := h1.put (l := [X2,X3]) hv'
      have hbq1 := h1.bq
      have hql := (List.getElem?_eq_some_iff.1 hbq1).1
      have hset : ∀ (l : List Res) X,(b1 ++ l).set q X = b1.set q X ++ l := fun l X => app_setL hql l X
      obtain ⟨-,-,x3,x4⟩ := h.fs.tj.tin
      have o1 : (one v.xk && one v.xi) = true := by rw [x3,x4]; rfl
      obtain ⟨-,-,x3,x4⟩ := hv'.tin
      have o2 : (one v'.xk && one v'.xi) = true := by rw [x3,x4]; rfl
      unfold tv at s3 hbq hnew hbq1
      simp only [lawG,↓Xn,↓Xo,↓Xg,↓Xd,↓Xe,↓Xf,Tryz.VΓ,Tryz.Γs,Xp,Xi,Nat.reduceAdd,Nat.reduceSub,Nat.reduceLT,Nat.reduceLeDiff,reduceIte,reduceCtorEq,Nat.reduceEqDiff,implies_true,forall_const,lawV,lawA,beq_self_eq_true,bne_self_eq_false,Int.reduceBEq,Int.reduceBNe,Int.reduceLT,Int.reduceLE,m3,m4,hb4,hbq,oy,hly,hc,o1]
      refine callV_sc s3 ?_
      rintro r b2 ⟨rfl,rfl⟩
      simp only [lawG,↓Xn,↓Xo,↓Xg,↓Xd,↓Xe,↓Xf,Tryz.VΓ,Tryz.Γs,Xp,Xi,Nat.reduceAdd,Nat.reduceSub,Nat.reduceLT,Nat.reduceLeDiff,reduceIte,reduceCtorEq,Nat.reduceEqDiff,implies_true,forall_const,lawV,lawA,beq_self_eq_true,bne_self_eq_false,Int.reduceBEq,Int.reduceBNe,Int.reduceLT,Int.reduceLE,m3,m4,at_old hbq1,hset,o2]
      refine hk' _ _ ?_
      refine ⟨v',_,?_,h.l4,h.h4,at_old (get_setN hb41 (by have := h.h4; omega) _) _⟩
      unfold memK memI
      rw [if_neg (by simpa using h0),if_neg (by simpa using h0)]
      exact hnew.mv ⟨rfl,rfl,rfl⟩
  clear h hT hM2 hml
  rintro m ⟨t,b⟩ ⟨v,y',h,h4,hq4,hb4⟩
  simp only at h h4 hb4
  have hKs2 := keys_app (K := Ks) (key := ([118,101,114,105,102,105,99,97,116,105,111,110,77,101,116,104,111,100] : List UInt8)) (L := D.methods.map methJ) hKs1 (by decide)
  have hKl2 : (Ks ++ memK ([118,101,114,105,102,105,99,97,116,105,111,110,77,101,116,104,111,100] : List UInt8) (D.methods.map methJ)).length ≤ 4 := by
    have : (memK ([118,101,114,105,102,105,99,97,116,105,111,110,77,101,116,104,111,100] : List UInt8) (D.methods.map methJ)).length ≤ 1 := by unfold memK; split <;> simp
    rw [List.length_append]; omega
  have hJl2 : (Js ++ memI (D.methods.map methJ)).length ≤ 4 := by
    have : (memI (D.methods.map methJ)).length ≤ 1 := by unfold memI; split <;> simp
    rw [List.length_append]; omega
  generalize Ks ++ memK ([118,101,114,105,102,105,99,97,116,105,111,110,77,101,116,104,111,100] : List UInt8) (D.methods.map methJ) = Ks at h hKl2 hE hKs2
  generalize Js ++ memI (D.methods.map methJ) = Js at h hJl2 hE
  refine vcS_cutS 2200 (fun σ => FL bs [.str D.id,xa,xc,xm,xs] q Ks Js v q4 .nils [] σ.t σ.b) ?_ (fun k' hk' => ?_)
  rotate_left
  · have hl4 := (List.getElem?_eq_some_iff.1 hb4).1
    simp only [lawG,↓Xn,↓Xo,↓Xg,↓Xd,↓Xe,↓Xf,Tryz.VΓ,Tryz.Γs,Xp,Xi,Nat.reduceAdd,Nat.reduceSub,Nat.reduceLT,Nat.reduceLeDiff,reduceIte,reduceCtorEq,Nat.reduceEqDiff,implies_true,forall_const,lawV,lawA,beq_self_eq_true,bne_self_eq_false,Int.reduceBEq,Int.reduceBNe,Int.reduceLT,Int.reduceLE,h4,hb4]
    refine hk' _ _ ?_
    exact ⟨(h.re (by simp) hq4 (y := .nils) (fun i n e => by cases e) ⟨_,_,_,hb4⟩ (fun i r hi hn _ => get_setN hi (Ne.symm hn) _)).mv ⟨rfl,rfl,rfl⟩,h4,hq4,List.getElem?_set_self hl4,.inl ⟨rfl,rfl⟩⟩
  clear h h4 hb4 hq4
  rintro m ⟨t,b⟩ h
  simp only at h
  refine vcS_cutS 2100 (fun σ => ∃ y Ms,FL bs [.str D.id,xa,xc,xm,xs] q Ks Js v q4 y Ms σ.t σ.b ∧ TJs σ.b (D.services.map servJ) Ms) ?_ (fun k' hk' => ?_)
  rotate_left
  · have m1 := h.fs.l1
    have hb0 := h.fs.b0
    have hM := rq_len d4
    have hQl : Q.length = D.services.length := by rw [← d6,List.length_map]
    simp only [lawG,↓Xn,↓Xo,↓Xg,↓Xd,↓Xe,↓Xf,Tryz.VΓ,Tryz.Γs,Xp,Xi,Nat.reduceAdd,Nat.reduceSub,Nat.reduceLT,Nat.reduceLeDiff,reduceIte,reduceCtorEq,Nat.reduceEqDiff,implies_true,forall_const,lawV,lawA,beq_self_eq_true,bne_self_eq_false,Int.reduceBEq,Int.reduceBNe,Int.reduceLT,Int.reduceLE,m1,hb0,c4,hM]
    refine loopV_mk (fun σ => ∃ (k : Nat) (y : SV) (Ms : List Tv),k ≤ Q.length ∧ FL bs [.str D.id,xa,xc,xm,xs] q Ks Js v q4 y Ms σ.t σ.b ∧ lk 68 σ.t = some xs ∧ lk 69 σ.t = some (.int .i64 Q.length) ∧ lk 70 σ.t = some (.int .i64 k) ∧ Ms.length = k ∧ TJs σ.b ((D.services.take k).map servJ) Ms) (fun σ => Q.length - lkI 70 σ) ⟨0,.nils,[],by omega,h.mv ⟨rfl,rfl,rfl⟩ rfl,rfl,rfl,rfl,rfl,by simp [TJs]⟩ ?_
    clear h m1 hb0
    rintro ⟨t,b⟩ ⟨k,y,Ms,hk,h,h31,h32,h33,hMl,hT⟩
    simp only at h h31 h32 h33 hT
    rw [lkI_eq h33]
    by_cases hlt : k < Q.length
    rotate_left
    · have hlt2 : decide ((k : Int) < Q.length) = false := decide_eq_false (by omega)
      simp only [lawG,↓Xn,↓Xo,↓Xg,↓Xd,↓Xe,↓Xf,Tryz.VΓ,Tryz.Γs,Xp,Xi,Nat.reduceAdd,Nat.reduceSub,Nat.reduceLT,Nat.reduceLeDiff,reduceIte,reduceCtorEq,Nat.reduceEqDiff,implies_true,forall_const,lawV,lawA,beq_self_eq_true,bne_self_eq_false,Int.reduceBEq,Int.reduceBNe,Int.reduceLT,Int.reduceLE,h31,h32,h33,hlt2]
      rw [List.take_of_length_le (by omega)] at hT
      refine hk' _ _ ?_
      exact ⟨y,Ms,h.mv ⟨rfl,rfl,rfl⟩ rfl,hT⟩
    have hlt2 : decide ((k : Int) < Q.length) = true := decide_eq_true (by omega)
    rcases d4 with ⟨-,hx0⟩ | ⟨i,rfl,hi⟩
    · rw [hx0] at hlt; simp at hlt
    have hbi := h.fs.kp.at hi
    have hu : List.take 3 (List.drop (k * 3) (Q.flatMap sqc)) = [.str Q[k].m.id,Q[k].y1,Q[k].y2] := by rw [sqc_at _ k hlt]; rfl
    have hul := sqc_len Q
    have hltS : k < D.services.length := by omega
    have hqs : Q[k].m = D.services[k] := by
      have : (Q.map Sq.m)[k]'(by simpa using hlt) = D.services[k] := by simp only [d6]
      simpa using this
    obtain ⟨n1,⟨n2,n3⟩,n4,n5⟩ := hB.s _ (List.getElem_mem hltS)
    have hT2 : (D.services.take (k + 1)).map servJ = (D.services.take k).map servJ ++ [servJ D.services[k]] := by rw [List.take_succ_eq_append_getElem hltS,List.map_append]; rfl
    have hml := hB.sl
    obtain ⟨y1,y2⟩ := d5 _ (List.getElem_mem hlt)
    rw [← hqs] at n1 n2 n3 n4 n5 hT2
    generalize Q[k] = x at hu n1 n2 n3 n4 n5 hT2 y1 y2
    have e1 := y1.one
    have e2 := y2.one
    have hone2 : (Vc.one x.y1 && Vc.one x.y2) = true := by rw [e1,e2]; rfl
    have p1 := p_r16_Text x.m.id
    obtain ⟨u1,A1,B1,g1,s1⟩ := ob_WithJ (TJ.empty (b ++ [.cells [.str x.m.id,x.y1,x.y2] 46 true])) (by simp) (by simp) (by simp) ([105,100] : List UInt8) (by decide) (TJ.text _ x.m.id n1)
    obtain ⟨a2,C2,f2,s2⟩ := ar_ArrayJ (((y1.ro h.fs.kp.ro).ro ((Ro.refl b).app [.cells [.str x.m.id,x.y1,x.y2] 46 true])).ro ((Ro.refl _).app [A1,B1])) n2 n3
    obtain ⟨u3,A3,B3,g3,s3⟩ := ob_WithJ (g1.ro ((Ro.refl _).app [C2])) (by simp) (by simp) (by simp) ([116,121,112,101] : List UInt8) (by decide) f2
    obtain ⟨a4,C4,f4,s4⟩ := ar_ArrayJ (((((y2.ro h.fs.kp.ro).ro ((Ro.refl b).app [.cells [.str x.m.id,x.y1,x.y2] 46 true])).ro ((Ro.refl _).app [A1,B1])).ro ((Ro.refl _).app [C2])).ro ((Ro.refl _).app [A3,B3])) n4 n5
    obtain ⟨u9,A5,B5,hj9,s5⟩ := ob_WithJ (g3.ro ((Ro.refl _).app [C4])) (by simp) (by simp) (by simp) ([115,101,114,118,105,99,101,69,110,100,112,111,105,110,116] : List UInt8) (by decide) f4
    simp only [List.append_assoc,List.cons_append,List.nil_append] at s1 s2 s3 s4 s5 hj9
    obtain ⟨-,-,x3,x4⟩ := hj9.tin
    have o9 : (one u9.xk && one u9.xi) = true := by rw [x3,x4]; rfl
    unfold tv at p1 s1 s2 s3 s4 s5
    have m5 := h.l4
    have hb5 := h.b4
    have hb5l := (List.getElem?_eq_some_iff.1 hb5).1
    have hset : ∀ (l : List Res) X,(b ++ l).set q4 X = b.set q4 X ++ l := fun l X => app_setL hb5l l X
    have hqk := h.fs.hq
    have hq4 := h.h4
    have hk4 := h.fs.kp.1
    have z0 : ∀ m,(b.length + m = q4) = False := fun m => eq_false (by omega)
    have z1 : (b.length = q4) = False := eq_false (by omega)
    rcases h.r4 with ⟨rfl,rfl⟩ | ⟨r,hr0,rfl,hqb,hbq⟩
    · obtain rfl : k = 0 := by simpa using hMl.symm
      simp only [lawG,↓Xn,↓Xo,↓Xg,↓Xd,↓Xe,↓Xf,Tryz.VΓ,Tryz.Γs,Xp,Xi,Nat.reduceAdd,Nat.reduceSub,Nat.reduceLT,Nat.reduceLeDiff,reduceIte,reduceCtorEq,Nat.reduceEqDiff,implies_true,forall_const,lawV,lawA,beq_self_eq_true,bne_self_eq_false,Int.reduceBEq,Int.reduceBNe,Int.reduceLT,Int.reduceLE,m5,h31,h32,h33,hlt2,hbi,hu,hul,hb5,at_old hb5,hset,e1,e2,hone2]
      refine ⟨⟨by omega,by omega⟩,by omega,?_⟩
      (refine callD_pc (p0) ?_; simp only [lawG,↓Xn,↓Xo,↓Xg,↓Xd,↓Xe,↓Xf,Tryz.VΓ,Tryz.Γs,Xp,Xi,Nat.reduceAdd,Nat.reduceSub,Nat.reduceLT,Nat.reduceLeDiff,reduceIte,reduceCtorEq,Nat.reduceEqDiff,implies_true,forall_const,lawV,lawA,beq_self_eq_true,bne_self_eq_false,Int.reduceBEq,Int.reduceBNe,Int.reduceLT,Int.reduceLE,at_old hb5,hset,e1,e2])
      (refine callD_pc (p1) ?_; simp only [lawG,↓Xn,↓Xo,↓Xg,↓Xd,↓Xe,↓Xf,Tryz.VΓ,Tryz.Γs,Xp,Xi,Nat.reduceAdd,Nat.reduceSub,Nat.reduceLT,Nat.reduceLeDiff,reduceIte,reduceCtorEq,Nat.reduceEqDiff,implies_true,forall_const,lawV,lawA,beq_self_eq_true,bne_self_eq_false,Int.reduceBEq,Int.reduceBNe,Int.reduceLT,Int.reduceLE,at_old hb5,hset,e1,e2])
      refine callD_scw [(b.length + 1,0,0),(b.length + 2,0,0)] s1 (outs2L [_] rfl rfl _ _) ?_
      simp only [lawG,↓Xn,↓Xo,↓Xg,↓Xd,↓Xe,↓Xf,Tryz.VΓ,Tryz.Γs,Xp,Xi,Nat.reduceAdd,Nat.reduceSub,Nat.reduceLT,Nat.reduceLeDiff,reduceIte,reduceCtorEq,Nat.reduceEqDiff,implies_true,forall_const,lawV,lawA,beq_self_eq_true,bne_self_eq_false,Int.reduceBEq,Int.reduceBNe,Int.reduceLT,Int.reduceLE,at_old hb5,hset,e1,e2]
      refine callD_scw [(b.length + 3,0,0)] s2 (outs1L [_,_,_] rfl _) ?_
      simp only [lawG,↓Xn,↓Xo,↓Xg,↓Xd,↓Xe,↓Xf,Tryz.VΓ,Tryz.Γs,Xp,Xi,Nat.reduceAdd,Nat.reduceSub,Nat.reduceLT,Nat.reduceLeDiff,reduceIte,reduceCtorEq,Nat.reduceEqDiff,implies_true,forall_const,lawV,lawA,beq_self_eq_true,bne_self_eq_false,Int.reduceBEq,Int.reduceBNe,Int.reduceLT,Int.reduceLE,at_old hb5,hset,e1,e2]
      refine callD_scw [(b.length + 4,0,0),(b.length + 5,0,0)] s3 (outs2L [_,_,_,_] rfl rfl _ _) ?_
      simp only [lawG,↓Xn,↓Xo,↓Xg,↓Xd,↓Xe,↓Xf,Tryz.VΓ,Tryz.Γs,Xp,Xi,Nat.reduceAdd,Nat.reduceSub,Nat.reduceLT,Nat.reduceLeDiff,reduceIte,reduceCtorEq,Nat.reduceEqDiff,implies_true,forall_const,lawV,lawA,beq_self_eq_true,bne_self_eq_false,Int.reduceBEq,Int.reduceBNe,Int.reduceLT,Int.reduceLE,at_old hb5,hset,e1,e2]
      refine callD_scw [(b.length + 6,0,0)] s4 (outs1L [_,_,_,_,_,_] rfl _) ?_
      simp only [lawG,↓Xn,↓Xo,↓Xg,↓Xd,↓Xe,↓Xf,Tryz.VΓ,Tryz.Γs,Xp,Xi,Nat.reduceAdd,Nat.reduceSub,Nat.reduceLT,Nat.reduceLeDiff,reduceIte,reduceCtorEq,Nat.reduceEqDiff,implies_true,forall_const,lawV,lawA,beq_self_eq_true,bne_self_eq_false,Int.reduceBEq,Int.reduceBNe,Int.reduceLT,Int.reduceLE,at_old hb5,hset,e1,e2]
      refine callD_scw [(b.length + 7,0,0),(b.length + 8,0,0)] s5 (outs2L [_,_,_,_,_,_,_] rfl rfl _ _) ?_
      simp only [lawG,↓Xn,↓Xo,↓Xg,↓Xd,↓Xe,↓Xf,Tryz.VΓ,Tryz.Γs,Xp,Xi,Nat.reduceAdd,Nat.reduceSub,Nat.reduceLT,Nat.reduceLeDiff,reduceIte,reduceCtorEq,Nat.reduceEqDiff,implies_true,forall_const,lawV,lawA,beq_self_eq_true,bne_self_eq_false,Int.reduceBEq,Int.reduceBNe,Int.reduceLT,Int.reduceLE,m5,h31,h32,h33,at_old hb5,hset,o9]
      have hkeep : ∀ (X : Res) (l : List Res) i r,b[i]? = some r → i ≠ q4 → (∀ n,SV.nils ≠ .o i n) → (b.set q4 X ++ l)[i]? = some r := fun X l i r hi hn _ => at_old (get_setN hi (Ne.symm hn) _) _
      have hro : Ro b (b.set q4 (.cells [.int .i64 6,.str [],.nils,.o (b.length + 10) 1] 25 true)) := AS.setp.ro_p hb5 _
      refine ⟨by decide,⟨by decide,by decide⟩,?_,⟨by omega,by omega⟩,⟨1,.o (b.length + 10) 1,[u9],by omega,FL.mv (FL.re h (by simp) (hkeep _ _) (get_setS hb5l _ _) (.inr ⟨b.length + 10,by simp,rfl,by omega,app_atL (by simp) _ 10⟩)) ⟨rfl,rfl,rfl⟩ rfl,rfl,rfl,?_⟩,?_⟩
      · refine OkD_ren (fun n => if n = q4 then 100 else n - b.length) ?_
        simp only [List.map_cons,List.map_nil,renRk,renT,Nat.add_sub_cancel_left,Nat.sub_self,z0,z1,eq_self,if_true,if_false]
        exact OkD_fast (by kernel_rfl)
      · rw [hT2]
        exact tjs_cons (hj9.ro (Ro.preD hro (by simp) [_,_,_,_,_,_,_,_,_] [_,_])) (tjs_nil _)
      · rw [lkI_eq (show lk 70 _ = some (.int .i64 ((1 : Nat) : Int)) from rfl)]; omega
    · have hql := (List.getElem?_eq_some_iff.1 hbq).1
      have hsq : ∀ (l : List Res) X,(b ++ l).set r X = b.set r X ++ l := fun l X => app_setL hql l X
      have hset2 : ∀ (l : List Res) Y X,(b.set r Y ++ l).set q4 X = (b.set r Y).set q4 X ++ l := fun l Y X => app_setL (by simpa using hb5l) l X
      have hq5 : r ≠ q4 := by rintro rfl; rw [hb5] at hbq; cases hbq
      have hbq1 := fun Y => at_old (get_setN hb5 hq5 Y)
      have hr0' : 0 < k := by omega
      rw [hMl] at hbq
      simp only [lawG,↓Xn,↓Xo,↓Xg,↓Xd,↓Xe,↓Xf,Tryz.VΓ,Tryz.Γs,Xp,Xi,Nat.reduceAdd,Nat.reduceSub,Nat.reduceLT,Nat.reduceLeDiff,reduceIte,reduceCtorEq,Nat.reduceEqDiff,implies_true,forall_const,lawV,lawA,beq_self_eq_true,bne_self_eq_false,Int.reduceBEq,Int.reduceBNe,Int.reduceLT,Int.reduceLE,hMl,m5,h31,h32,h33,hlt2,hbi,hu,hul,hb5,at_old hb5,hset,e1,e2,hone2]
      refine ⟨⟨by omega,by omega⟩,by omega,?_⟩
      (refine callD_pc (p0) ?_; simp only [lawG,↓Xn,↓Xo,↓Xg,↓Xd,↓Xe,↓Xf,Tryz.VΓ,Tryz.Γs,Xp,Xi,Nat.reduceAdd,Nat.reduceSub,Nat.reduceLT,Nat.reduceLeDiff,reduceIte,reduceCtorEq,Nat.reduceEqDiff,implies_true,forall_const,lawV,lawA,beq_self_eq_true,bne_self_eq_false,Int.reduceBEq,Int.reduceBNe,Int.reduceLT,Int.reduceLE,at_old hb5,hset,e1,e2])
      (refine callD_pc (p1) ?_; simp only [lawG,↓Xn,↓Xo,↓Xg,↓Xd,↓Xe,↓Xf,Tryz.VΓ,Tryz.Γs,Xp,Xi,Nat.reduceAdd,Nat.reduceSub,Nat.reduceLT,Nat.reduceLeDiff,reduceIte,reduceCtorEq,Nat.reduceEqDiff,implies_true,forall_const,lawV,lawA,beq_self_eq_true,bne_self_eq_false,Int.reduceBEq,Int.reduceBNe,Int.reduceLT,Int.reduceLE,at_old hb5,hset,e1,e2])
      refine callD_scw [(b.length + 1,0,0),(b.length + 2,0,0)] s1 (outs2L [_] rfl rfl _ _) ?_
      simp only [lawG,↓Xn,↓Xo,↓Xg,↓Xd,↓Xe,↓Xf,Tryz.VΓ,Tryz.Γs,Xp,Xi,Nat.reduceAdd,Nat.reduceSub,Nat.reduceLT,Nat.reduceLeDiff,reduceIte,reduceCtorEq,Nat.reduceEqDiff,implies_true,forall_const,lawV,lawA,beq_self_eq_true,bne_self_eq_false,Int.reduceBEq,Int.reduceBNe,Int.reduceLT,Int.reduceLE,at_old hb5,hset,e1,e2]
      refine callD_scw [(b.length + 3,0,0)] s2 (outs1L [_,_,_] rfl _) ?_
      simp only [lawG,↓Xn,↓Xo,↓Xg,↓Xd,↓Xe,↓Xf,Tryz.VΓ,Tryz.Γs,Xp,Xi,Nat.reduceAdd,Nat.reduceSub,Nat.reduceLT,Nat.reduceLeDiff,reduceIte,reduceCtorEq,Nat.reduceEqDiff,implies_true,forall_const,lawV,lawA,beq_self_eq_true,bne_self_eq_false,Int.reduceBEq,Int.reduceBNe,Int.reduceLT,Int.reduceLE,at_old hb5,hset,e1,e2]
      refine callD_scw [(b.length + 4,0,0),(b.length + 5,0,0)] s3 (outs2L [_,_,_,_] rfl rfl _ _) ?_
      simp only [lawG,↓Xn,↓Xo,↓Xg,↓Xd,↓Xe,↓Xf,Tryz.VΓ,Tryz.Γs,Xp,Xi,Nat.reduceAdd,Nat.reduceSub,Nat.reduceLT,Nat.reduceLeDiff,reduceIte,reduceCtorEq,Nat.reduceEqDiff,implies_true,forall_const,lawV,lawA,beq_self_eq_true,bne_self_eq_false,Int.reduceBEq,Int.reduceBNe,Int.reduceLT,Int.reduceLE,at_old hb5,hset,e1,e2]
      refine callD_scw [(b.length + 6,0,0)] s4 (outs1L [_,_,_,_,_,_] rfl _) ?_
      simp only [lawG,↓Xn,↓Xo,↓Xg,↓Xd,↓Xe,↓Xf,Tryz.VΓ,Tryz.Γs,Xp,Xi,Nat.reduceAdd,Nat.reduceSub,Nat.reduceLT,Nat.reduceLeDiff,reduceIte,reduceCtorEq,Nat.reduceEqDiff,implies_true,forall_const,lawV,lawA,beq_self_eq_true,bne_self_eq_false,Int.reduceBEq,Int.reduceBNe,Int.reduceLT,Int.reduceLE,at_old hb5,hset,e1,e2]
      refine callD_scw [(b.length + 7,0,0),(b.length + 8,0,0)] s5 (outs2L [_,_,_,_,_,_,_] rfl rfl _ _) ?_
      simp only [lawG,↓Xn,↓Xo,↓Xg,↓Xd,↓Xe,↓Xf,Tryz.VΓ,Tryz.Γs,Xp,Xi,Nat.reduceAdd,Nat.reduceSub,Nat.reduceLT,Nat.reduceLeDiff,reduceIte,reduceCtorEq,Nat.reduceEqDiff,implies_true,forall_const,lawV,lawA,beq_self_eq_true,bne_self_eq_false,Int.reduceBEq,Int.reduceBNe,Int.reduceLT,Int.reduceLE,m5,h31,h32,h33,at_old hb5,at_old hbq,hset,hsq,hset2,hbq1,o9]
      have z2 : ∀ m,(b.length + m = r) = False := fun m => eq_false (by omega)
      have z3 : (b.length = r) = False := eq_false (by omega)
      have z4 : (r = q4) = False := eq_false hq5
      have hkeep : ∀ (X : Res) (l : List Res) i s,b[i]? = some s → i ≠ q4 → (∀ n,SV.o r k ≠ .o i n) → ((b.set r .gone).set q4 X ++ l)[i]? = some s := fun X l i s hi hn hq => at_old (get_setN (get_setN hi (fun e => hq k (by rw [e])) _) (Ne.symm hn) _) _
      have hro : Ro b ((b.set r .gone).set q4 (.cells [.int .i64 6,.str [],.nils,.o (b.length + 10) (k + 1)] 25 true)) := ((Ro.refl b).setT hbq .gone).trans (AS.setp.ro_p (get_setN hb5 hq5 _) _)
      rw [hMl] at h
      refine ⟨by decide,⟨by unfold maxLen; omega,by omega⟩,?_,⟨by omega,by omega⟩,⟨k + 1,.o (b.length + 10) (k + 1),Ms ++ [u9],by omega,FL.mv (FL.re h (by simp) (hkeep _ _) (get_setS (by simpa using hb5l) _ _) (.inr ⟨b.length + 10,by simp,by simp [hMl],by omega,?_⟩)) ⟨rfl,rfl,rfl⟩ rfl,rfl,by simp [hMl],?_⟩,?_⟩
      · refine OkD_ren (fun n => if n = q4 then 100 else if n = r then 101 else n - b.length) ?_
        simp only [List.map_cons,List.map_nil,renRk,renT,Nat.add_sub_cancel_left,Nat.sub_self,z0,z1,z2,z3,z4,eq_self,if_true,if_false]
        exact OkD_fast (by kernel_rfl)
      · rw [app_atL (by simp),List.flatMap_append]; simp [hMl,tv]
      · rw [hT2]
        exact (hT.ro (h.r4.ro hb5 (hkeep _ _))).app (tjs_cons (hj9.ro (Ro.preD hro (by simp) [_,_,_,_,_,_,_,_,_] [_,_])) (tjs_nil _))
      · rw [lkI_eq (show lk 70 _ = some (.int .i64 ((k + 1 : Nat) : Int)) from rfl)]; omega
  clear h
  rintro m ⟨t,b⟩ ⟨y,Ms,h,hT⟩
  simp only at h hT
  have hM2 := hT.len
  have hml := hB.sl
  simp only [List.length_map] at hM2
  refine vcS_cutS 2000 (fun σ => ∃ v,FQ bs [.str D.id,xa,xc,xm,xs] q (Ks ++ memK ([115,101,114,118,105,99,101] : List UInt8) (D.services.map servJ)) (Js ++ memI (D.services.map servJ)) v σ.t σ.b) ?_ (fun k' hk' => ?_)
  rotate_left
  · have m3 := h.fs.l3
    have m4 := h.l4
    have hb4 := h.b4
    have hbq := h.fs.bq
    have oy := h.r4.one
    have hly := h.r4.len 25
    by_cases h0 : D.services.length = 0
    · have hc : decide ((0 : Int) < Ms.length) = false := decide_eq_false (by omega)
      simp only [lawG,↓Xn,↓Xo,↓Xg,↓Xd,↓Xe,↓Xf,Tryz.VΓ,Tryz.Γs,Xp,Xi,Nat.reduceAdd,Nat.reduceSub,Nat.reduceLT,Nat.reduceLeDiff,reduceIte,reduceCtorEq,Nat.reduceEqDiff,implies_true,forall_const,lawV,lawA,beq_self_eq_true,bne_self_eq_false,Int.reduceBEq,Int.reduceBNe,Int.reduceLT,Int.reduceLE,m4,hb4,oy,hly,hc]
      refine hk' _ _ ?_
      refine ⟨v,?_⟩
      unfold memK memI
      rw [if_pos (by simpa using h0),if_pos (by simpa using h0),List.append_nil,List.append_nil]
      exact h.fs.mv ⟨rfl,rfl,rfl⟩
    · have hc : decide ((0 : Int) < Ms.length) = true := decide_eq_true (by omega)
      obtain ⟨b1,hsc,h1,hj,hb41,hl1⟩ := h.dull hT (by omega)
      obtain ⟨v',X2,X3,hv',s3⟩ := ob_WithJ h1.tj (by omega) (by omega) hKs2 ([115,101,114,118,105,99,101] : List UInt8) (by decide) hj
      have s3 := hsc _ _ _ s3
      have hnew := h1.put (l := [X2,X3]) hv'
      have hbq1 := h1.bq
      have hql := (List.getElem?_eq_some_iff.1 hbq1).1
      have hset : ∀ (l : List Res) X,(b1 ++ l).set q X = b1.set q X ++ l := fun l X => app_setL hql l X
      obtain ⟨-,-,x3,x4⟩ := h.fs.tj.tin
      have o1 : (one v.xk && one v.xi) = true := by rw [x3,x4]; rfl
      obtain ⟨-,-,x3,x4⟩ := hv'.tin
      have o2 : (one v'.xk && one v'.xi) = true := by rw [x3,x4]; rfl
      unfold tv at s3 hbq hnew hbq1
      simp only [lawG,↓Xn,↓Xo,↓Xg,↓Xd,↓Xe,↓Xf,Tryz.VΓ,Tryz.Γs,Xp,Xi,Nat.reduceAdd,Nat.reduceSub,Nat.reduceLT,Nat.reduceLeDiff,reduceIte,reduceCtorEq,Nat.reduceEqDiff,implies_true,forall_const,lawV,lawA,beq_self_eq_true,bne_self_eq_false,Int.reduceBEq,Int.reduceBNe,Int.reduceLT,Int.reduceLE,m3,m4,hb4,hbq,oy,hly,hc,o1]
      refine callV_sc s3 ?_
      rintro r b2 ⟨rfl,rfl⟩
      simp only [lawG,↓Xn,↓Xo,↓Xg,↓Xd,↓Xe,↓Xf,Tryz.VΓ,Tryz.Γs,Xp,Xi,Nat.reduceAdd,Nat.reduceSub,Nat.reduceLT,Nat.reduceLeDiff,reduceIte,reduceCtorEq,Nat.reduceEqDiff,implies_true,forall_const,lawV,lawA,beq_self_eq_true,bne_self_eq_false,Int.reduceBEq,Int.reduceBNe,Int.reduceLT,Int.reduceLE,m3,m4,at_old hbq1,hset,o2]
      refine hk' _ _ ?_
      refine ⟨v',?_⟩
      unfold memK memI
      rw [if_neg (by simpa using h0),if_neg (by simpa using h0)]
      exact hnew.mv ⟨rfl,rfl,rfl⟩
  clear h hT hM2 hml
  rintro m ⟨t,b⟩ ⟨v,h⟩
  simp only at h
  have m2 := h.l2
  have m3 := h.l3
  have hb1 := h.b1
  have hbq := h.bq
  have hqq := h.hq
  have hl1 := (List.getElem?_eq_some_iff.1 hb1).1
  have hg1 : ∀ X,(b.set (bs.length + 1) X)[bs.length + 1]? = some X := fun X => List.getElem?_set_self hl1
  obtain ⟨-,-,x3,x4⟩ := h.tj.tin
  have o1 : (one v.xk && one v.xi) = true := by rw [x3,x4]; rfl
  unfold tv at hbq
  simp only [lawG,↓Xn,↓Xo,↓Xg,↓Xd,↓Xe,↓Xf,Tryz.VΓ,Tryz.Γs,Xp,Xi,Nat.reduceAdd,Nat.reduceSub,Nat.reduceLT,Nat.reduceLeDiff,reduceIte,reduceCtorEq,Nat.reduceEqDiff,implies_true,forall_const,lawV,lawA,beq_self_eq_true,bne_self_eq_false,Int.reduceBEq,Int.reduceBNe,Int.reduceLT,Int.reduceLE,m2,m3,hb1,hbq,hg1,o1]
  have hkp := kp_set1 h.kp (i := bs.length + 1) (by omega) (.cells [.int .i64 v.k,.str v.t,v.xk,v.xi] 25 true)
  have hro := (AS.setp.ro_p hb1 (.cells [.int .i64 v.k,.str v.t,v.xk,v.xi] 25 true)).trans (dimB_dim hkp.1).ro
  refine ⟨hkp.1,v,rfl,hkp.dimB,?_⟩
  rw [hE]
  exact h.tj.ro hro
end Go.Proofs.YtejfjmcjicpodaaGreatDoor
/- What decoding gives is short. -/
set_option linter.all false
namespace Go.Proofs.YtejfjmcjicpodaaGreatDoor
open Go Vc Go.RowKit Wf
set_option linter.unusedSimpArgs false
theorem docR_ro {a b : List Res} {c : List SV} {D : Docm} (k : Ro a b) : DocR a c D → DocR b c D := by
  rintro ⟨xa,xc,xm,xs,Q,e,g1,g2,g3,g4,g5,g6⟩
  exact ⟨xa,xc,xm,xs,Q,e,g1.ro k,g2.ro k,g3.ro k,g4.ro k,fun q hq => (g5 q hq).ro k,g6⟩
end Go.Proofs.YtejfjmcjicpodaaGreatDoor
/- An executable reckoning of closed calls,and its soundness. -/
set_option linter.all false
namespace Vc
open Go Go.RowKit Wf
section
variable {β : Type}
def forceI (n : Int) (f : Int → β) : β := match n with
  | .ofNat m => forceN m fun m => f (.ofNat m)
  | .negSucc m => forceN m fun m => f (.negSucc m)
theorem forceI_eq (n : Int) (f : Int → β) : forceI n f = f n := by cases n <;> simp [forceI,forceN_eq]
noncomputable def forceL (l : List UInt8) : (List UInt8 → β) → β := List.rec (motive := fun _ => (List UInt8 → β) → β) (fun f => f []) (fun x _ ih f => forceN x.toNat fun m => ih fun r => f (UInt8.ofNat m :: r)) l
theorem forceL_eq : ∀ (l : List UInt8) (f : List UInt8 → β),forceL l f = f l
  | [],_ => rfl
  | x :: r,f => by
    show forceN x.toNat (fun m => forceL r fun r => f (UInt8.ofNat m :: r)) = _
    rw [forceN_eq,forceL_eq r,UInt8.ofNat_toNat]
noncomputable def forceP {α : Type} (l : List α) : (List α → β) → β := List.rec (motive := fun _ => (List α → β) → β) (fun f => f []) (fun x _ ih f => ih fun r => f (x :: r)) l
theorem forceP_eq {α : Type} : ∀ (l : List α) (f : List α → β),forceP l f = f l
  | [],_ => rfl
  | x :: r,f => by
    show forceP r (fun r => f (x :: r)) = _
    rw [forceP_eq r]
def forceW (x : SV) (f : SV → β) : β := match x with
  | .bool b => match b with
    | true => f (.bool true)
    | false => f (.bool false)
  | .int k n => f (.int k n)
  | .str l => f (.str l)
  | .p i o => f (.p i o)
  | .o i n => f (.o i n)
  | .f i n => f (.f i n)
  | .nils => f .nils
  | .agg l => f (.agg l)
  | .tup l => f (.tup l)
  | .fn g l => f (.fn g l)
  | .mv g l => f (.mv g l)
  | .ifc t x => f (.ifc t x)
  | .v x => f (.v x)
theorem forceW_eq (x : SV) (f : SV → β) : forceW x f = f x := by
  cases x <;> try rfl
  rename_i b; cases b <;> rfl
noncomputable def forceSL (l : List SV) : (List SV → β) → β := List.rec (motive := fun _ => (List SV → β) → β) (fun f => f []) (fun x _ ih f => forceW x fun x => ih fun r => f (x :: r)) l
theorem forceSL_eq : ∀ (l : List SV) (f : List SV → β),forceSL l f = f l
  | [],_ => rfl
  | x :: r,f => by
    show forceW x (fun x => forceSL r fun r => f (x :: r)) = _
    rw [forceW_eq,forceSL_eq r]
noncomputable def forceS (x : SV) (f : SV → β) : β := match x with
  | .int k n => forceI n fun n => f (.int k n)
  | .str l => forceL l fun l => f (.str l)
  | .p i o => forceN i fun i => forceN o fun o => f (.p i o)
  | .o i n => forceN i fun i => forceN n fun n => f (.o i n)
  | .f i n => forceN i fun i => forceN n fun n => f (.f i n)
  | .agg l => forceSL l fun l => f (.agg l)
  | .tup l => forceSL l fun l => f (.tup l)
  | .fn g l => forceSL l fun l => f (.fn g l)
  | .mv g l => forceSL l fun l => f (.mv g l)
  | x => forceW x f
theorem forceS_eq (x : SV) (f : SV → β) : forceS x f = f x := by
  cases x <;> simp [forceS,forceI_eq,forceL_eq,forceN_eq,forceSL_eq,forceW_eq]
noncomputable def forceQ (x : SV) (f : SV → β) : β := match x with
  | .int k n => forceI n fun n => f (.int k n)
  | .str l => forceP l fun l => f (.str l)
  | .agg l => forceSL l fun l => f (.agg l)
  | .tup l => forceSL l fun l => f (.tup l)
  | x => forceW x f
theorem forceQ_eq (x : SV) (f : SV → β) : forceQ x f = f x := by
  cases x <;> simp [forceQ,forceI_eq,forceP_eq,forceSL_eq,forceW_eq]
def forceR (x : Res) (f : Res → β) : β := match x with
  | .cells c T m => f (.cells c T m)
  | .own c e s n m => f (.own c e s n m)
  | .ext R => f (.ext R)
  | .gone => f .gone
theorem forceR_eq (x : Res) (f : Res → β) : forceR x f = f x := by cases x <;> rfl
noncomputable def forceB (l : List Res) : (List Res → β) → β := List.rec (motive := fun _ => (List Res → β) → β) (fun f => f []) (fun x _ ih f => forceR x fun x => ih fun r => f (x :: r)) l
theorem forceB_eq : ∀ (l : List Res) (f : List Res → β),forceB l f = f l
  | [],_ => rfl
  | x :: r,f => by
    show forceR x (fun x => forceB r fun r => f (x :: r)) = _
    rw [forceR_eq,forceB_eq r]
noncomputable def forceT (t : List (Nat × SV)) (f : List (Nat × SV) → β) : β := match t with
  | [] => f []
  | (d,x) :: r => forceS x fun x => f ((d,x) :: r)
theorem forceT_eq (t : List (Nat × SV)) (f : List (Nat × SV) → β) : forceT t f = f t := by
  cases t with
  | nil => rfl
  | cons p r => rw [forceT,forceS_eq]
end
/-! the conditions -/
def okIdx (op : BinOp) (k : IntKind) (a b : Int) : Bool := match op with
  | .shl => decide (0 ≤ b)
  | .shr => decide (0 ≤ b)
  | .add => inR k (a + b)
  | .sub => inR k (a - b)
  | .mul => inR k (a * b)
  | .quo => decide (b ≠ 0)
  | .rem => decide (b ≠ 0)
  | _ => true
where inR (k : IntKind) (n : Int) : Bool := match k with
  | .i64 => decide (-9223372036854775808 ≤ n) && decide (n ≤ 9223372036854775807)
  | _ => true
theorem inR_ok {k : IntKind} {n : Int} {c : Prop} {x : SV} (h : ar k n = (c,x)) (ho : okIdx.inR k n = true) : c := by
  unfold ar at h
  unfold okIdx.inR at ho
  split at h
  · simp only [Bool.and_eq_true,decide_eq_true_eq] at ho
    have := (Prod.mk.inj h).1
    rw [← this]; exact ho
  · have := (Prod.mk.inj h).1
    rw [← this]; trivial
theorem binI_ok {op : BinOp} {k k' : IntKind} {a b : Int} {c : Prop} {x : SV} (h : binI op k k' a b = some (c,x)) (ho : okIdx op k a b = true) : c := by
  unfold binI at h
  split at h <;> first
    | (obtain ⟨rfl,-⟩ := Prod.mk.inj (Option.some.inj h); simpa [okIdx] using ho)
    | (have h2 := (ifK_ok h).2; first
        | exact inR_ok h2 (by simpa [okIdx] using ho)
        | (obtain ⟨rfl,-⟩ := Prod.mk.inj h2; first | trivial | simpa [okIdx] using ho))
def okBn (len : Nat) (lo hi : Option SV) : Bool := match hi,lo with
  | none,none => true
  | none,some (.int _ l) => decide (0 ≤ l) && decide (l ≤ len)
  | some (.int _ h),none => decide (0 ≤ h) && decide (h ≤ len)
  | some (.int _ h),some (.int _ l) => decide (0 ≤ l) && decide (l ≤ h) && decide (h ≤ len)
  | _,_ => false
theorem okBn_ok {len : Nat} {lo hi : Option SV} {c : Prop} {r : Nat × Nat} (h : bnds len lo hi = some (c,r)) (ho : okBn len lo hi = true) : c := by
  unfold bnds at h
  unfold okBn at ho
  split at h
  · obtain ⟨rfl,-⟩ := Prod.mk.inj (Option.some.inj h); trivial
  · obtain ⟨rfl,-⟩ := Prod.mk.inj (Option.some.inj h); simpa using ho
  · obtain ⟨rfl,-⟩ := Prod.mk.inj (Option.some.inj h); simpa using ho
  · obtain ⟨rfl,-⟩ := Prod.mk.inj (Option.some.inj h); simpa [and_assoc] using ho
  · cases h
def okBin (t : List (Nat × SV)) (op : BinOp) (x y : Operand) : Bool := match ev t x with
  | some (.int k a) => match ev t y with
    | some (.int _ b) => okIdx op k a b
    | _ => true
  | some (.str a) => match ev t y with
    | some (.str b) => decide (a.length + b.length ≤ 9223372036854775807)
    | _ => true
  | _ => true
def okSl (V : Cx) (x : Operand) (lo hi : Option Operand) (σ : St) : Bool := match ev σ.t x with
  | some (.str l) => match optE σ.t lo with
    | some lo => match optE σ.t hi with
      | some hi => okBn l.length lo hi
      | none => true
    | none => true
  | some (.o i n) => match σ.b[i]? with
    | some (.own _ _ s n' _) => match optE σ.t lo with
      | some lo => match optE σ.t hi with
        | some hi => okBn n lo hi && (n' == n) && decide (0 < s)
        | none => true
      | none => true
    | _ => true
  | _ => true
def okO (V : Cx) : Op → St → Bool
  | .binOp op _ x y _,σ => okBin σ.t op x y
  | .next _ _,_ => false
  | .unOp .neg _ _,_ => false
  | .slice T x lo hi none,σ => okSl V x lo hi σ && (match sz V.Γ (match kd V.Γ T with | some (.slice e) => e | _ => 0) with
      | some s => (match ev σ.t x with
        | some (.o i _) => (match σ.b[i]? with
          | some (.own _ _ s' _ _) => s' == s
          | _ => false)
        | _ => true)
      | none => true)
  | .slice T x none (some hi) (some mx),σ => (match ev σ.t hi with
    | some (.int _ hi) => (match ev σ.t mx with
      | some (.int _ mx) => (match ev σ.t x with
        | some (.o i n) => (match σ.b[i]? with
          | some (.own _ _ s' n' _) => (n' == n) && decide (hi = (n : Int)) && decide (mx = (n : Int)) && (match sz V.Γ (match kd V.Γ T with | some (.slice e) => e | _ => 0) with | some s => s' == s | none => true)
          | _ => true)
        | _ => decide (hi = 0) && decide (mx = 0))
      | _ => true)
    | _ => true)
  | .index _ x i,σ => (match ev σ.t x with
    | some (.str l) => (match ev σ.t i with
      | some (.int _ n) => decide (0 ≤ n) && decide (n < l.length)
      | _ => true)
    | _ => true)
  | .indexAddr T x i,σ => (match ev σ.t i with
    | some (.int _ k) => decide (0 ≤ k) && (match kd V.Γ T with
      | some (.arr n e) => decide (k < n) && (match sz V.Γ e with | some s => decide (0 < s) | none => true)
      | some (.slice e) => (match ev σ.t x with
        | some (.o i n) => decide (k < n) && (match σ.b[i]? with
          | some (.own _ _ s n' _) => (n' == n) && decide (0 < s) && (match sz V.Γ e with | some s' => s == s' | none => true)
          | _ => true)
        | _ => true)
      | _ => true)
    | _ => true)
  | .call ⟨.builtin .append,args,ts⟩,σ => (match args.toList with
    | [s,x] => (match ts.toList with
      | [t,u] => (match kd V.Γ t with
        | some (.slice e) => (match kd V.Γ u with
          | some ku => (match V.Γ e with
            | some ti => (match ev σ.t s with
              | some s => (match ev σ.t x with
                | some x => (match dstS σ.b e ti.size s with
                  | some (n,_,_) => (match srcS σ.b ti.size x with
                    | some (m,xs) => (!capB s || decide (0 < m)) && XP ku && decide (0 < ti.size) && xs.all one && decide (n + m ≤ maxLen) && decide ((n + m) * ti.bytes ≤ 140737488355328)
                    | none => true)
                  | none => true)
                | none => true)
              | none => true)
            | none => true)
          | none => true)
        | _ => true)
      | _ => true)
    | _ => true)
  | .makeSlice t l c,σ => (match kd V.Γ t with
    | some (.slice e) => (match V.Γ e with
      | some ti => (match ev σ.t l with
        | some (.int _ l) => (match ev σ.t c with
          | some (.int _ c) => decide (0 ≤ l) && decide (l ≤ c) && decide ((ti.bytes : Int) * c ≤ 281474976710656) && decide (c ≤ 9223372036854775807) && decide (0 < ti.size)
          | _ => true)
        | _ => true)
      | none => true)
    | _ => true)
  | .buildSlice t n ps,σ => (match kd V.Γ t with
    | some (.slice e) => (match V.Γ e with
      | some ti => (match Xl σ.t ps.toList with
        | some ps => (ps.length == n) && decide (n * ti.size ≤ 16777216) && decide (0 < ti.size)
        | none => true)
      | none => true)
    | _ => true)
  | .convert _ _ x,σ => (match ev σ.t x with
    | some (.str l) => decide (l.length ≤ maxLen)
    | some (.o i n) => (match σ.b[i]? with
      | some (.own c _ s n' _) => (n' == n) && (s == 1) && c.all isU8
      | _ => true)
    | _ => true)
  | .box _ x,σ => (match ev σ.t x with
    | some x => !isV x
    | none => true)
  | .load T x,σ => (match ev σ.t x with
    | some (.p i off) => (match getB σ.b i with
      | some (c,_,_) => (match V.Γ T with
        | some ti => decide (off + ti.size ≤ c.length) && decide (0 < ti.size)
        | none => true)
      | none => true)
    | _ => true)
  | .store T x y,σ => (match ev σ.t x with
    | some (.p i off) => (match ev σ.t y with
      | some y => (match getB σ.b i with
        | some (c,_,m) => (match sz V.Γ T with
          | some s => m && (cells y).all one && ((cells y).length == s) && decide (off + s ≤ c.length) && decide (0 < s)
          | none => true)
        | none => true)
      | none => true)
    | _ => true)
  | .nilCheck x,σ => (match ev σ.t x with
    | some (.fn f _) => Xt f
    | _ => true)
  | _,_ => true
variable {V : Cx}
theorem pv_c {op : Op} {σ : St} {c : Prop} {x : SV} (h : pv V.Γ σ.t op = some (c,x)) (ho : okO V op σ = true) : c := by
  unfold pv at h
  split at h
  case h_6 op T x y z =>
    simp only [okO] at ho
    unfold oBin at h
    unfold okBin at ho
    split at h
    · rename_i a ha
      rw [ha] at ho
      split at h
      · rename_i b hb
        rw [hb] at ho
        split at h
        · rename_i r hr
          cases h
          cases a <;> cases b <;> simp only [bin] at hr <;> try cases hr
          · exact binI_ok hr ho
          · unfold binS at hr
            split at hr <;> try cases hr
            all_goals first | trivial | simpa using ho
        · split at h
          · rename_i k hk
            cases he : eqB V.Γ T k op a b with
            | none => rw [he] at h; cases h
            | some v => rw [he] at h; cases h; trivial
          · cases h
      · cases h
    · cases h
  case h_9 T x lo hi =>
    simp only [okO,Bool.and_eq_true] at ho
    have ho := ho.1
    unfold Xw at h
    unfold okSl at ho
    (repeat' split at h) <;> try cases h
    simp_all
    obtain ⟨p,q,r,h1,h2,-⟩ := h
    rw [← h2]
    exact okBn_ok h1 ho
  case h_10 T x i =>
    simp only [okO] at ho
    unfold Xx at h
    (repeat' split at h) <;> try cases h
    simp_all
  case h_15 T x i =>
    simp only [okO] at ho
    unfold XS at h
    (repeat' split at h) <;> try cases h
    simp_all
  all_goals
    first
      | cases h; done
      | (simp only [XX,Ya,Xb,Xu,oUn,Ye,Xh,oLen,Yh,Xk,oIface,oAssert] at h
         (repeat' split at h) <;> simp_all <;> (try (obtain ⟨_,_,h1,_⟩ := h; rw [← h1]; trivial)) <;> (try (obtain ⟨_,h1,_⟩ := h; rw [← h1]; trivial)) <;> (try (rw [← h.1]; trivial)) <;> (try (simp [okO] at ho; done)))
theorem stepN_c {dst : Option Tmp} {op : Op} {σ σ' : St} {c : Prop} (h : Yl V dst op σ = some (c,σ')) (ho : okO V op σ = true) : c := by
  unfold Yl at h
  split at h
  · rename_i args ts
    simp only [okO] at ho
    unfold Xm at h
    (repeat' split at h) <;> try cases h
    simp_all
    exact fun hc => ho.1.1.1.1.1.resolve_left (by simp [hc])
  · unfold Xq at h
    (repeat' split at h) <;> try cases h
    simp_all
    obtain ⟨_,_,h1,_⟩ := h; exact h1
  · unfold Xq at h
    (repeat' split at h) <;> try cases h
    simp_all
    obtain ⟨_,_,h1,_⟩ := h; exact h1
  · simp only [okO] at ho
    unfold Yn at h
    (repeat' split at h) <;> try cases h
    simp_all
  · simp only [okO] at ho
    unfold Xa at h
    (repeat' split at h) <;> try cases h
    simp_all
  · rename_i T x i
    simp only [okO] at ho
    unfold Xc at h
    (repeat' split at h) <;> try cases h
    rename_i ha
    unfold Ym at ha
    (repeat' split at ha) <;> try cases ha
    unfold Xc.sizeIs
    simp_all
    omega
  · rename_i T x lo hi
    simp only [okO,Bool.and_eq_true] at ho
    unfold Xj at h
    (repeat' split at h) <;> try cases h
    rename_i hr
    unfold reS at hr
    unfold okSl at ho
    (repeat' split at hr) <;> try cases hr
    all_goals
      simp only [Xc.sizeIs]
      simp_all
      rename_i hb
      exact ⟨okBn_ok hb ho.1.1.1,by omega⟩
  · rename_i T x hi mx
    simp only [okO] at ho
    unfold nCap at h
    (repeat' split at h) <;> try cases h
    rename_i hc
    unfold capS at hc
    (repeat' split at hc) <;> try cases hc
    all_goals simp_all
  · simp only [okO] at ho
    unfold Yb at h
    (repeat' split at h) <;> try cases h
    all_goals simp_all
  · cases h
theorem stepM_c {dst : Option Tmp} {op : Op} {σ σ' : St} {c : Prop} (h : Yd V dst op σ = .go c σ') (ho : okO V op σ = true) : c := by
  unfold Yd at h
  split at h
  · unfold XC at h
    (repeat' split at h) <;> try cases h
    trivial
  · simp only [okO] at ho
    unfold sBox at h
    (repeat' split at h) <;> try cases h
    simp_all
  · simp only [okO] at ho
    unfold XU at h
    (repeat' split at h) <;> try cases h
    simp_all
  · simp only [okO] at ho
    unfold XH at h
    (repeat' split at h) <;> try cases h
    simp_all
  · unfold Xr at h
    (repeat' split at h) <;> try cases h
    trivial
  · simp only [okO] at ho
    unfold sNil at h
    (repeat' split at h) <;> try cases h
    all_goals simp_all
  · unfold XL at h
    (repeat' split at h) <;> cases h
  · unfold sInvoke at h
    (repeat' split at h) <;> cases h
  · unfold sRange at h
    (repeat' split at h) <;> try cases h
    trivial
  · simp only [okO] at ho
    cases ho
  · cases h
theorem stepO_c {dst : Option Tmp} {op : Op} {σ σ' : St} {c : Prop} (h : XR V dst op σ = .go c σ') (ho : okO V op σ = true) : c := by
  unfold XR at h
  cases hp : pv V.Γ σ.t op with
  | some p => rw [hp] at h; obtain ⟨c',x⟩ := p; cases h; exact pv_c hp ho
  | none =>
    rw [hp] at h
    simp only [goR] at h
    cases hn : Yl V dst op σ with
    | some p => rw [hn] at h; obtain ⟨c',x⟩ := p; cases h; exact stepN_c hn ho
    | none => rw [hn] at h; exact stepM_c h ho
theorem stepDM_c {op : Op} {σ : St} {c : Prop} {r : RecE} (h : Xv V op σ = .val c r) (ho : okO V op σ = true) : c := by
  unfold Xv at h
  split at h
  · unfold XD at h
    (repeat' split at h) <;> try cases h
    trivial
  · simp only [okO] at ho
    unfold dBox at h
    (repeat' split at h) <;> try cases h
    simp_all
  · simp only [okO] at ho
    unfold XI at h
    (repeat' split at h) <;> try cases h
    simp_all
  · simp only [okO] at ho
    unfold XF at h
    (repeat' split at h) <;> try cases h
    simp_all
  · unfold XB valD at h
    (repeat' split at h) <;> try cases h
    trivial
  · simp only [okO] at ho
    unfold dNil valD at h
    (repeat' split at h) <;> try cases h
    all_goals simp_all
  · unfold XK at h
    (repeat' split at h) <;> cases h
  · cases h
theorem stepD_c {op : Op} {σ : St} {c : Prop} {r : RecE} (h : XV V op σ = .val c r) (ho : okO V op σ = true) : c := by
  unfold XV at h
  cases hp : pv V.Γ σ.t op with
  | some p => rw [hp] at h; obtain ⟨c',x⟩ := p; cases h; exact pv_c hp ho
  | none =>
    rw [hp] at h
    simp only [goD] at h
    cases hn : Yl V (some 0) op σ with
    | some p =>
      rw [hn] at h; obtain ⟨c',x⟩ := p
      have hc := stepN_c hn
      simp only [dN] at h
      split at h
      · split at h <;> (cases h; exact hc ho)
      · cases h
    | none => rw [hn] at h; exact stepDM_c h ho
/-! quick steps -/
noncomputable def lkB (d : Nat) (t : List (Nat × SV)) : Option SV := List.rec (motive := fun _ => Option SV) none (fun p _ ih => Bool.rec (motive := fun _ => Option SV) ih (some p.2) (Nat.beq d p.1)) t
theorem lkB_eq (d : Nat) : ∀ t,lkB d t = lk d t
  | [] => rfl
  | (e,x) :: r => by
    show Bool.rec (motive := fun _ => Option SV) (lkB d r) (some x) (Nat.beq d e) = _
    rw [lk,lkB_eq d r]
    by_cases h : d = e
    · subst h; rw [if_pos rfl,Nat.beq_refl]
    · rw [if_neg h]
      cases hb : Nat.beq d e
      · rfl
      · exact absurd (Nat.eq_of_beq_eq_true hb) h
noncomputable def evB (t : List (Nat × SV)) : Operand → Option SV
  | .tmp d => lkB d t
  | .const v => some (ofV v)
  | .global g => some (.v (.pointer (some ⟨g,0,none⟩)))
  | .func f => some (.fn (.func f) [])
theorem evB_eq (t : List (Nat × SV)) (o : Operand) : evB t o = ev t o := by cases o <;> simp only [evB,ev,lkB_eq]
noncomputable def lenB {α : Type} (l : List α) : Nat → Nat := List.rec (motive := fun _ => Nat → Nat) (fun n => n) (fun _ _ ih n => ih (Nat.add n 1)) l
theorem lenB_eq {α : Type} : ∀ (l : List α) (n : Nat),lenB l n = n + l.length
  | [],_ => rfl
  | _ :: r,n => by show lenB r (n + 1) = _; rw [lenB_eq r]; simp; omega
noncomputable def appB {α : Type} (a b : List α) : List α := List.rec (motive := fun _ => List α) b (fun x _ ih => x :: ih) a
theorem appB_eq {α : Type} (b : List α) : ∀ a : List α,appB a b = a ++ b
  | [] => rfl
  | x :: r => by show x :: appB r b = _; rw [appB_eq b r]; rfl
noncomputable def takeB {α : Type} (l : List α) : Nat → List α := List.rec (motive := fun _ => Nat → List α) (fun _ => []) (fun x _ ih n => Nat.rec (motive := fun _ => List α) [] (fun m _ => x :: ih m) n) l
theorem takeB_eq {α : Type} : ∀ (l : List α) (n : Nat),takeB l n = l.take n
  | [],n => by simp [takeB]
  | x :: r,0 => rfl
  | x :: r,n + 1 => by show x :: takeB r n = _; rw [takeB_eq r n]; rfl
noncomputable def dropB {α : Type} (l : List α) : Nat → List α := List.rec (motive := fun _ => Nat → List α) (fun _ => []) (fun x r ih n => Nat.rec (motive := fun _ => List α) (x :: r) (fun m _ => ih m) n) l
theorem dropB_eq {α : Type} : ∀ (l : List α) (n : Nat),dropB l n = l.drop n
  | [],n => by simp [dropB]
  | x :: r,0 => rfl
  | x :: r,n + 1 => by show dropB r n = _; rw [dropB_eq r n]; rfl
noncomputable def nthB {α : Type} (d : α) (l : List α) : Nat → α := List.rec (motive := fun _ => Nat → α) (fun _ => d) (fun x _ ih n => Nat.rec (motive := fun _ => α) x (fun m _ => ih m) n) l
theorem nthB_eq {α : Type} (d : α) : ∀ (l : List α) (n : Nat),nthB d l n = l.getD n d
  | [],n => by simp [nthB]
  | x :: r,0 => rfl
  | x :: r,n + 1 => by show nthB d r n = _; rw [nthB_eq d r n]; simp
noncomputable def sameB (a : List UInt8) : List UInt8 → Bool := List.rec (motive := fun _ => List UInt8 → Bool) (fun b => List.rec (motive := fun _ => Bool) true (fun _ _ _ => false) b) (fun x _ ih b => List.rec (motive := fun _ => Bool) false (fun y r _ => Bool.rec (motive := fun _ => Bool) false (ih r) (Nat.beq x.toNat y.toNat)) b) a
theorem sameB_eq : ∀ (a b : List UInt8),sameB a b = (a == b)
  | [],[] => rfl
  | [],_ :: _ => rfl
  | _ :: _,[] => rfl
  | x :: r,y :: q => by
    show Bool.rec (motive := fun _ => Bool) false (sameB r q) (Nat.beq x.toNat y.toNat) = _
    rw [sameB_eq r q]
    cases h : Nat.beq x.toNat y.toNat
    · have hne : x ≠ y := fun e => by subst e; rw [Nat.beq_refl] at h; cases h
      have : (x :: r == y :: q) = false := beq_eq_false_iff_ne.2 (fun e => hne (List.cons.inj e).1)
      rw [this]
    · have he : x = y := UInt8.toNat_inj.1 (Nat.eq_of_beq_eq_true h)
      subst he
      simp
def okV : Bool → Option (Prop × SV) → Option SV
  | true,some (_,x) => some x
  | _,_ => none
def qIntS (op : BinOp) (k k' : IntKind) (a b : Int) : Option SV := okV (okIdx op k a b) (binI op k k' a b)
def kN : IntKind → Nat
  | .i8 => 0
  | .i16 => 1
  | .i32 => 2
  | .i64 => 3
  | .u8 => 4
  | .u16 => 5
  | .u32 => 6
  | .u64 => 7
def kSame (k k' : IntKind) : Bool := Nat.beq (kN k) (kN k')
theorem kSame_ok {k k' : IntKind} (h : kSame k k' = true) : k = k' := by
  have := Nat.eq_of_beq_eq_true h
  cases k <;> cases k' <;> first | rfl | (simp [kN] at this)
def qAdd (k : IntKind) (m n : Nat) : Option SV := match k with
  | .i64 => match Nat.ble (Nat.add m n) 9223372036854775807 with
    | true => some (.int .i64 (.ofNat (Nat.add m n)))
    | false => none
  | k => qIntS .add k k (.ofNat m) (.ofNat n)
def qSub (k : IntKind) (m n : Nat) : Option SV := match k with
  | .i64 => match Nat.ble n m with
    | true => match Nat.ble m 9223372036854775807 with
      | true => some (.int .i64 (.ofNat (Nat.sub m n)))
      | false => none
    | false => qIntS .sub .i64 .i64 (.ofNat m) (.ofNat n)
  | k => qIntS .sub k k (.ofNat m) (.ofNat n)
def notB : Bool → Bool
  | true => false
  | false => true
def qNat (op : BinOp) (k : IntKind) (m n : Nat) : Option SV := match op with
  | .add => qAdd k m n
  | .sub => qSub k m n
  | .eql => some (.bool (Nat.beq m n))
  | .neq => some (.bool (notB (Nat.beq m n)))
  | .lss => some (.bool (Nat.ble (Nat.add m 1) n))
  | .leq => some (.bool (Nat.ble m n))
  | .gtr => some (.bool (Nat.ble (Nat.add n 1) m))
  | .geq => some (.bool (Nat.ble n m))
  | op => qIntS op k k (.ofNat m) (.ofNat n)
def qInt (op : BinOp) (k k' : IntKind) (a b : Int) : Option SV := match a,b with
  | .ofNat m,.ofNat n => match kSame k k' with
    | true => qNat op k m n
    | false => qIntS op k k' (.ofNat m) (.ofNat n)
  | a,b => qIntS op k k' a b
noncomputable def qStr (op : BinOp) (a b : List UInt8) : Option SV := match op with
  | .eql => some (.bool (sameB a b))
  | .neq => some (.bool (notB (sameB a b)))
  | .add => match Nat.ble (lenB a (lenB b 0)) 9223372036854775807 with
    | true => some (.str (appB a b))
    | false => none
  | _ => none
noncomputable def qBin (op : BinOp) : Option SV → Option SV → Option SV
  | some (.int k a),some (.int k' b) => qInt op k k' a b
  | some (.str a),some (.str b) => qStr op a b
  | _,_ => none
def qExt (i : Nat) : Option SV → Option SV
  | some (.tup l) => l[i]?
  | _ => none
def qNot (op : UnOp) : Option SV → Option SV
  | some (.bool b) => match op with
    | .not => some (.bool (!b))
    | _ => none
  | _ => none
def qPick : Option SV → Option SV → Option SV → Option SV
  | some c,a,b => XJ c a b
  | none,_,_ => none
def isStr (Γ : TypeId → Option TI) (T : TypeId) : Bool := match kd Γ T with
  | some .str => true
  | _ => false
noncomputable def qIdx (l : List UInt8) (n : Int) : Option SV := match n with
  | .ofNat m => match Nat.blt m (lenB l 0) with
    | true => some (.int .u8 (.ofNat (nthB 0 l m).toNat))
    | false => none
  | _ => none
noncomputable def qCut (l : List UInt8) (f u : Nat) : Option SV := match Nat.ble f u && Nat.ble u (lenB l 0) with
  | true => some (.str (dropB (takeB l u) f))
  | false => none
noncomputable def qSl (l : List UInt8) : Option (Option SV) → Option (Option SV) → Option SV
  | some none,some none => qCut l 0 (lenB l 0)
  | some (some (.int _ (.ofNat f))),some none => qCut l f (lenB l 0)
  | some none,some (some (.int _ (.ofNat u))) => qCut l 0 u
  | some (some (.int _ (.ofNat f))),some (some (.int _ (.ofNat u))) => qCut l f u
  | _,_ => none
noncomputable def optB (t : List (Nat × SV)) : Option Operand → Option (Option SV)
  | none => some none
  | some o => (evB t o).map some
theorem optB_eq (t : List (Nat × SV)) (o : Option Operand) : optB t o = optE t o := by cases o <;> simp only [optB,optE,evB_eq]
noncomputable def qSlice (t : List (Nat × SV)) (lo hi : Option Operand) : Bool → Option SV → Option SV
  | true,some (.str l) => qSl l (optB t lo) (optB t hi)
  | _,_ => none
noncomputable def qIndex : Bool → Option SV → Option SV → Option SV
  | true,some (.str l),some (.int _ n) => qIdx l n
  | _,_,_ => none
noncomputable def qLenV (Γ : TypeId → Option TI) (T : TypeId) : Option SV → Option SV
  | some (.str l) => match isStr Γ T with
    | true => some (.int .i64 (lenB l 0 : Nat))
    | false => none
  | _ => none
noncomputable def qLen (Γ : TypeId → Option TI) (t : List (Nat × SV)) : List Operand → List TypeId → Option SV
  | [x],[T] => qLenV Γ T (evB t x)
  | _,_ => none
noncomputable def qCall (Γ : TypeId → Option TI) (t : List (Nat × SV)) (args : List Operand) (ts : List TypeId) : Callee → Option SV
  | .builtin .len => qLen Γ t args ts
  | _ => none
noncomputable def qOp (Γ : TypeId → Option TI) (t : List (Nat × SV)) : Op → Option SV
  | .move x => evB t x
  | .assign x => evB t x
  | .binOp op _ x y _ => qBin op (evB t x) (evB t y)
  | .extract x i => qExt i (evB t x)
  | .unOp op _ x => qNot op (evB t x)
  | .pick c a b => qPick (evB t c) (evB t a) (evB t b)
  | .index T x i => qIndex (isStr Γ T) (evB t x) (evB t i)
  | .slice T x lo hi none => qSlice t lo hi (isStr Γ T) (evB t x)
  | .call c => qCall Γ t c.args.toList c.argTypes.toList c.callee
  | _ => none
theorem okV_ok {b : Bool} {o : Option (Prop × SV)} {x : SV} (h : okV b o = some x) : b = true ∧ ∃ c,o = some (c,x) := by
  cases b <;> cases o <;> simp [okV] at h
  rename_i p
  obtain ⟨c,y⟩ := p
  simp at h
  exact ⟨rfl,c,by rw [h]⟩
theorem notB_eq (b : Bool) : notB b = !b := by cases b <;> rfl
theorem qIntS_ok {op : BinOp} {k k' : IntKind} {a b : Int} {x : SV} (h : qIntS op k k' a b = some x) : ∃ c,binI op k k' a b = some (c,x) ∧ c := by
  obtain ⟨h1,c,h2⟩ := okV_ok h
  exact ⟨c,h2,binI_ok h2 h1⟩
theorem qAdd_ok {k : IntKind} {m n : Nat} {x : SV} (h : qAdd k m n = some x) : ∃ c,binI .add k k (.ofNat m) (.ofNat n) = some (c,x) ∧ c := by
  unfold qAdd at h
  split at h
  · split at h
    · rename_i hc
      cases h
      simp only [Nat.ble_eq] at hc
      exact ⟨_,rfl,by constructor <;> (simp only [Int.ofNat_eq_natCast]; show _ ≤ _; have : (Nat.add m n) = m + n := rfl; omega)⟩
    · cases h
  · exact qIntS_ok h
theorem qSub_ok {k : IntKind} {m n : Nat} {x : SV} (h : qSub k m n = some x) : ∃ c,binI .sub k k (.ofNat m) (.ofNat n) = some (c,x) ∧ c := by
  unfold qSub at h
  split at h
  · split at h
    · rename_i hc
      split at h
      · rename_i hd
        cases h
        simp only [Nat.ble_eq] at hc hd
        have e : (Int.ofNat m - Int.ofNat n) = Int.ofNat (Nat.sub m n) := by
          show (m : Int) - (n : Int) = ((m - n : Nat) : Int)
          omega
        refine ⟨-9223372036854775808 ≤ Int.ofNat (Nat.sub m n) ∧ Int.ofNat (Nat.sub m n) ≤ 9223372036854775807,?_,?_⟩
        · simp only [binI,ifK,if_pos,ar,e]
        show _ ≤ ((m - n : Nat) : Int) ∧ ((m - n : Nat) : Int) ≤ _
        omega
      · cases h
    · exact qIntS_ok h
  · exact qIntS_ok h
theorem qNat_ok {op : BinOp} {k : IntKind} {m n : Nat} {x : SV} (h : qNat op k m n = some x) : ∃ c,binI op k k (.ofNat m) (.ofNat n) = some (c,x) ∧ c := by
  unfold qNat at h
  split at h
  · exact qAdd_ok h
  · exact qSub_ok h
  · cases h
    refine ⟨True,?_,trivial⟩
    have : (Int.ofNat m == Int.ofNat n) = Nat.beq m n := by
      rw [Bool.eq_iff_iff]; simp [Nat.beq_eq]; omega
    simp only [binI,ifK,if_pos,this]
  · cases h
    refine ⟨True,?_,trivial⟩
    have : (Int.ofNat m != Int.ofNat n) = notB (Nat.beq m n) := by
      have h2 : (Int.ofNat m == Int.ofNat n) = Nat.beq m n := by
        rw [Bool.eq_iff_iff]; simp [Nat.beq_eq]; omega
      rw [notB_eq,← h2]; rfl
    simp only [binI,ifK,if_pos,this]
  · cases h
    refine ⟨True,?_,trivial⟩
    have : decide (Int.ofNat m < Int.ofNat n) = Nat.ble (Nat.add m 1) n := by
      rw [Bool.eq_iff_iff]; simp [Nat.ble_eq]; rfl
    simp only [binI,ifK,if_pos,this]
  · cases h
    refine ⟨True,?_,trivial⟩
    have : decide (Int.ofNat m ≤ Int.ofNat n) = Nat.ble m n := by
      rw [Bool.eq_iff_iff]; simp [Nat.ble_eq]
    simp only [binI,ifK,if_pos,this]
  · cases h
    refine ⟨True,?_,trivial⟩
    have : decide (Int.ofNat n < Int.ofNat m) = Nat.ble (Nat.add n 1) m := by
      rw [Bool.eq_iff_iff]; simp [Nat.ble_eq]; rfl
    simp only [binI,ifK,if_pos,this]
  · cases h
    refine ⟨True,?_,trivial⟩
    have : decide (Int.ofNat n ≤ Int.ofNat m) = Nat.ble n m := by
      rw [Bool.eq_iff_iff]; simp [Nat.ble_eq]
    simp only [binI,ifK,if_pos,this]
  · exact qIntS_ok h
theorem qInt_ok {op : BinOp} {k k' : IntKind} {a b : Int} {x : SV} (h : qInt op k k' a b = some x) : ∃ c,binI op k k' a b = some (c,x) ∧ c := by
  unfold qInt at h
  split at h
  · split at h
    · rename_i hk
      have := kSame_ok hk
      subst this
      exact qNat_ok h
    · exact qIntS_ok h
  · exact qIntS_ok h
theorem qOp_ok {Γ : TypeId → Option TI} {t : List (Nat × SV)} {op : Op} {x : SV} (h : qOp Γ t op = some x) : ∃ c,pv Γ t op = some (c,x) ∧ c := by
  cases op <;> try (simp only [qOp,evB_eq] at h)
  all_goals try (cases h; done)
  case slice T a lo hi mx =>
    cases mx with
    | some _ => simp [qOp] at h
    | none =>
    simp only [qOp,evB_eq] at h
    unfold qSlice at h
    split at h
    · rename_i l h1 h2
      simp only [optB_eq] at h
      have hk : kd Γ T = some .str := by
        unfold isStr at h1
        split at h1
        · assumption
        · cases h1
      have key : ∀ f u,qCut l f u = some x → x = .str ((l.take u).drop f) ∧ f ≤ u ∧ u ≤ l.length := fun f u h => by
        unfold qCut at h
        split at h
        · rename_i hc
          cases h
          simp only [Bool.and_eq_true,Nat.ble_eq,lenB_eq,Nat.zero_add] at hc
          exact ⟨by rw [dropB_eq,takeB_eq],hc⟩
        · cases h
      unfold qSl at h
      split at h
      · rename_i e1 e2
        obtain ⟨rfl,h3,h4⟩ := key _ _ h
        refine ⟨True,?_,trivial⟩
        simp only [pv,Xw,hk,h2,e1,e2,bnds,Option.map_some,lenB_eq,Nat.zero_add]
      · rename_i e1 e2
        obtain ⟨rfl,h3,h4⟩ := key _ _ h
        rw [lenB_eq,Nat.zero_add] at h3
        refine ⟨_,by simp only [pv,Xw,hk,h2,e1,e2,bnds,Option.map_some,lenB_eq,Nat.zero_add,Int.ofNat_eq_natCast,Int.toNat_natCast]; rfl,?_⟩
        constructor <;> omega
      · rename_i e1 e2
        obtain ⟨rfl,h3,h4⟩ := key _ _ h
        refine ⟨_,by simp only [pv,Xw,hk,h2,e1,e2,bnds,Option.map_some,Int.ofNat_eq_natCast,Int.toNat_natCast]; rfl,?_⟩
        constructor <;> omega
      · rename_i e1 e2
        obtain ⟨rfl,h3,h4⟩ := key _ _ h
        refine ⟨_,by simp only [pv,Xw,hk,h2,e1,e2,bnds,Option.map_some,Int.ofNat_eq_natCast,Int.toNat_natCast]; rfl,?_⟩
        refine ⟨?_,?_,?_⟩ <;> omega
      · cases h
    · cases h
  case move o => exact ⟨True,by simp only [pv,XX,h]; rfl,trivial⟩
  case assign o => exact ⟨True,by simp only [pv,XX,h]; rfl,trivial⟩
  case binOp op T a b p =>
    simp only [pv,oBin]
    cases ha : ev t a with
    | none => rw [ha] at h; simp [qBin] at h
    | some a =>
    cases hb : ev t b with
    | none => rw [ha,hb] at h; cases a <;> simp [qBin] at h
    | some b =>
    rw [ha,hb] at h
    cases a <;> cases b <;> simp only [qBin] at h <;> try cases h
    · obtain ⟨c,h2,hc⟩ := qInt_ok h
      simp only [bin,h2]
      exact ⟨c,rfl,hc⟩
    · unfold qStr at h
      split at h
      · cases h; simp only [bin,binS,sameB_eq]; exact ⟨True,rfl,trivial⟩
      · cases h; simp only [bin,binS,sameB_eq,notB_eq]; exact ⟨True,rfl,trivial⟩
      · split at h
        · rename_i hc
          cases h
          simp only [bin,binS,appB_eq]
          simp only [Nat.ble_eq,lenB_eq,Nat.zero_add] at hc
          exact ⟨_,rfl,by omega⟩
        · cases h
      · cases h
  case extract o i =>
    unfold qExt at h
    split at h
    · rename_i l hl
      exact ⟨True,by simp only [pv,Xh,hl,h]; rfl,trivial⟩
    · cases h
  case unOp op T o =>
    unfold qNot at h
    split at h
    · rename_i b hl
      split at h
      · cases h; exact ⟨True,by simp only [pv,oUn,hl],trivial⟩
      · cases h
    · cases h
  case pick c a b =>
    unfold qPick at h
    split at h
    · rename_i y hc
      exact ⟨True,by simp only [pv,Ya,hc,h]; rfl,trivial⟩
    · cases h
  case index T a i =>
    unfold qIndex at h
    split at h
    · rename_i l k n h1 h2 h3
      unfold isStr at h1
      split at h1
      · rename_i hk
        unfold qIdx at h
        split at h
        · rename_i m
          split at h
          · rename_i hd
            cases h
            have hd : m < l.length := by have := hd; simp [Nat.blt,lenB_eq] at this; omega
            exact ⟨0 ≤ Int.ofNat m ∧ Int.ofNat m < l.length,by simp only [pv,Xx,hk,h2,h3,nthB_eq]; rfl,by constructor <;> simp <;> omega⟩
          · cases h
        · cases h
      · cases h1
    · cases h
  case call c =>
    obtain ⟨callee,args,ts⟩ := c
    unfold qCall at h
    split at h
    · rename_i hc
      simp only at hc
      subst hc
      unfold qLen at h
      split at h
      · rename_i o T ha ht
        simp only at ha ht
        simp only [evB_eq] at h
        unfold qLenV at h
        split at h
        · rename_i l hl
          unfold isStr at h
          cases hk : kd Γ T with
          | none => rw [hk] at h; cases h
          | some k =>
            rw [hk] at h
            cases k <;> simp only at h <;> cases h
            exact ⟨True,by simp only [pv,oLen,ha,ht,hk,hl,lenS,lenB_eq,Nat.zero_add]; rfl,trivial⟩
        · cases h
      · cases h
    · cases h
end Vc
/- An executable reckoning of closed calls: the runner. -/
set_option linter.all false
namespace Vc
open Go Go.RowKit Wf
inductive EItem where
  | code (c : Code)
  | ops (ops : Array Oper) (l : List Oper)
  | dops (ops : Array Oper) (l : List Oper) (rs : List Rk)
  | endb (id : Nat)
  | endx (x : Code)
def exitX (id : Nat) : List EItem → Option (List EItem)
  | [] => none
  | .endb id' :: k => if id' = id then some k else exitX id k
  | _ :: k => exitX id k
def seenB (m d : Nat) : Bool := Nat.beq 1 (Nat.land 1 (Nat.shiftRight m d))
noncomputable def ddM {β : Type} (t : List (Nat × SV)) : Nat → (List (Nat × SV) → β) → β := List.rec (motive := fun _ => Nat → (List (Nat × SV) → β) → β) (fun _ f => f []) (fun p _ ih m f => Bool.rec (motive := fun _ => β) (forceN p.1 fun d => forceW p.2 fun x => forceN (Nat.lor m (Nat.shiftLeft 1 d)) fun m => ih m fun r => f ((d,x) :: r)) (ih m f) (seenB m p.1)) t
def ddP : List (Nat × SV) → Nat → List (Nat × SV)
  | [],_ => []
  | (d,x) :: r,m => match seenB m d with
    | true => ddP r m
    | false => (d,x) :: ddP r (Nat.lor m (Nat.shiftLeft 1 d))
theorem ddM_eq {β : Type} : ∀ (t : List (Nat × SV)) (m : Nat) (f : List (Nat × SV) → β),ddM t m f = f (ddP t m)
  | [],_,_ => rfl
  | (d,x) :: r,m,f => by
    show Bool.rec (motive := fun _ => β) (forceN d fun d => forceW x fun x => forceN (Nat.lor m (Nat.shiftLeft 1 d)) fun m => ddM r m fun r => f ((d,x) :: r)) (ddM r m f) (seenB m d) = _
    rw [ddP]
    cases seenB m d
    · simp only [forceN_eq,forceW_eq]
      rw [ddM_eq r]
    · exact ddM_eq r m f
inductive FT where
  | nil
  | node (l : FT) (k : FuncId) (pu : Bool) (fn : Func) (how : Nat → List Nat) (r : FT)
noncomputable def FT.get (g : FuncId) (t : FT) : Option (Bool × Func × (Nat → List Nat)) := FT.rec (motive := fun _ => Option (Bool × Func × (Nat → List Nat))) none (fun _ k pu fn how _ il ir => Bool.rec (motive := fun _ => Option (Bool × Func × (Nat → List Nat))) (Bool.rec (motive := fun _ => Option (Bool × Func × (Nat → List Nat))) ir (some (pu,fn,how)) (Nat.beq g k)) il (Nat.ble (Nat.add g 1) k)) t
def FT.ok (V : Cx) : FT → Prop
  | .nil => True
  | .node l k _ fn _ r => V.P.funcs[k]? = some fn ∧ Enters V k ∧ l.ok V ∧ r.ok V
theorem FT.get_ok {V : Cx} {g : FuncId} : ∀ {t : FT} {pu : Bool} {fn : Func} {how : Nat → List Nat},t.ok V → t.get g = some (pu,fn,how) → V.P.funcs[g]? = some fn ∧ Enters V g
  | .nil,_,_,_,_,h => by cases h
  | .node l k pu' fn' how' r,pu,fn,how,⟨h1,h2,h3,h4⟩,h => by
    have h : Bool.rec (motive := fun _ => Option (Bool × Func × (Nat → List Nat))) (Bool.rec (motive := fun _ => Option (Bool × Func × (Nat → List Nat))) (r.get g) (some (pu',fn',how')) (Nat.beq g k)) (l.get g) (Nat.ble (Nat.add g 1) k) = some (pu,fn,how) := h
    cases hb : Nat.ble (Nat.add g 1) k
    · rw [hb] at h
      cases he : Nat.beq g k
      · rw [he] at h
        exact FT.get_ok h4 h
      · rw [he] at h
        cases h
        have := Nat.eq_of_beq_eq_true he
        subst this
        exact ⟨h1,h2⟩
    · rw [hb] at h
      exact FT.get_ok h3 h
structure EPar (V : Cx) where
  tbl : FT
  prim : FuncId → List SV → List Res → Option (SV × List Res)
structure EFun where
  n : Nat
  rs : List ResultVar
  how : Nat → List Nat
inductive EOut where
  | ok (x : SV × List Res)
  | no (k g : Nat)
/-! which things a call changed -/
def sameI : Int → Int → Bool
  | .ofNat m,.ofNat n => Nat.beq m n
  | .negSucc m,.negSucc n => Nat.beq m n
  | _,_ => false
theorem sameI_ok {a b : Int} (h : sameI a b = true) : a = b := by
  unfold sameI at h
  split at h
  · rw [Nat.eq_of_beq_eq_true h]
  · rw [Nat.eq_of_beq_eq_true h]
  · cases h
noncomputable def sameS (x y : SV) : Bool := match x,y with
  | .bool true,.bool true => true
  | .bool false,.bool false => true
  | .int k n,.int k' n' => kSame k k' && sameI n n'
  | .str a,.str b => sameB a b
  | .p i o,.p i' o' => Nat.beq i i' && Nat.beq o o'
  | .o i n,.o i' n' => Nat.beq i i' && Nat.beq n n'
  | .nils,.nils => true
  | _,_ => false
theorem sameS_ok {x y : SV} (h : sameS x y = true) : x = y := by
  unfold sameS at h
  split at h <;> try simp only [Bool.and_eq_true] at h
  · rfl
  · rfl
  · rw [kSame_ok h.1,sameI_ok h.2]
  · rw [sameB_eq] at h; rw [eq_of_beq h]
  · rw [Nat.eq_of_beq_eq_true h.1,Nat.eq_of_beq_eq_true h.2]
  · rw [Nat.eq_of_beq_eq_true h.1,Nat.eq_of_beq_eq_true h.2]
  · rfl
  · cases h
noncomputable def sameC (a : List SV) : List SV → Bool := List.rec (motive := fun _ => List SV → Bool) (fun b => List.rec (motive := fun _ => Bool) true (fun _ _ _ => false) b) (fun x _ ih b => List.rec (motive := fun _ => Bool) false (fun y r _ => Bool.rec (motive := fun _ => Bool) false (ih r) (sameS x y)) b) a
theorem sameC_ok : ∀ {a b : List SV},sameC a b = true → a = b
  | [],[],_ => rfl
  | [],_ :: _,h => by cases h
  | _ :: _,[],h => by cases h
  | x :: r,y :: q,h => by
    have h : Bool.rec (motive := fun _ => Bool) false (sameC r q) (sameS x y) = true := h
    cases hs : sameS x y
    · rw [hs] at h; cases h
    · rw [hs] at h
      rw [sameS_ok hs,sameC_ok (a := r) (b := q) h]
def sameM : Bool → Bool → Bool
  | true,true => true
  | false,false => true
  | _,_ => false
theorem sameM_ok {a b : Bool} (h : sameM a b = true) : a = b := by cases a <;> cases b <;> first | rfl | cases h
noncomputable def sameR (x y : Res) : Bool := match x,y with
  | .cells c T m,.cells c' T' m' => sameM m m' && Nat.beq T T' && sameC c c'
  | .own c e s n m,.own c' e' s' n' m' => sameM m m' && Nat.beq e e' && Nat.beq s s' && Nat.beq n n' && sameC c c'
  | .gone,.gone => true
  | _,_ => false
theorem sameR_ok {x y : Res} (h : sameR x y = true) : x = y := by
  unfold sameR at h
  split at h <;> try simp only [Bool.and_eq_true] at h
  · obtain ⟨⟨h1,h2⟩,h3⟩ := h
    rw [sameM_ok h1,Nat.eq_of_beq_eq_true h2,sameC_ok h3]
  · obtain ⟨⟨⟨⟨h1,h2⟩,h3⟩,h4⟩,h5⟩ := h
    rw [sameM_ok h1,Nat.eq_of_beq_eq_true h2,Nat.eq_of_beq_eq_true h3,Nat.eq_of_beq_eq_true h4,sameC_ok h5]
  · rfl
  · cases h
noncomputable def newW (b : List Res) : Nat → List (Nat × Nat × Nat) := List.rec (motive := fun _ => Nat → List (Nat × Nat × Nat)) (fun _ => []) (fun _ _ ih i => forceN i fun i => (i,0,0) :: ih (Nat.add i 1)) b
noncomputable def diffW (a : List Res) : List Res → Nat → List (Nat × Nat × Nat) := List.rec (motive := fun _ => List Res → Nat → List (Nat × Nat × Nat)) newW (fun x _ ih b i => forceN i fun i => List.rec (motive := fun _ => List (Nat × Nat × Nat)) ((i,0,0) :: ih [] (Nat.add i 1)) (fun y q _ => Bool.rec (motive := fun _ => List (Nat × Nat × Nat)) ((i,0,0) :: ih q (Nat.add i 1)) (ih q (Nat.add i 1)) (sameR x y)) b) a
theorem newW_nil (i : Nat) : newW [] i = [] := rfl
theorem newW_cons (z : Res) (r : List Res) (i : Nat) : newW (z :: r) i = (i,0,0) :: newW r (i + 1) := by
  show forceN i (fun i => (i,0,0) :: newW r (Nat.add i 1)) = _
  rw [forceN_eq]
theorem diffW_cn (x : Res) (r : List Res) (i : Nat) : diffW (x :: r) [] i = (i,0,0) :: diffW r [] (i + 1) := by
  show forceN i (fun i => (i,0,0) :: diffW r [] (Nat.add i 1)) = _
  rw [forceN_eq]
theorem diffW_cc (x z : Res) (r q : List Res) (i : Nat) : diffW (x :: r) (z :: q) i = if sameR x z = true then diffW r q (i + 1) else (i,0,0) :: diffW r q (i + 1) := by
  show forceN i (fun i => Bool.rec (motive := fun _ => List (Nat × Nat × Nat)) ((i,0,0) :: diffW r q (Nat.add i 1)) (diffW r q (Nat.add i 1)) (sameR x z)) = _
  rw [forceN_eq]
  cases sameR x z <;> rfl
theorem newW_z : ∀ (b : List Res) (i : Nat),∀ y ∈ newW b i,y.2.2 = 0
  | [],i,y,h => by rw [newW_nil] at h; cases h
  | _ :: r,i,y,h => by
    rw [newW_cons] at h
    rcases List.mem_cons.1 h with rfl | h
    · rfl
    · exact newW_z r _ y h
theorem diffW_z : ∀ (a b : List Res) (i : Nat),∀ y ∈ diffW a b i,y.2.2 = 0
  | [],b,i,y,h => newW_z b i y h
  | _ :: r,[],i,y,h => by
    rw [diffW_cn] at h
    rcases List.mem_cons.1 h with rfl | h
    · rfl
    · exact diffW_z r [] _ y h
  | x :: r,z :: q,i,y,h => by
    rw [diffW_cc] at h
    split at h
    · exact diffW_z r q _ y h
    · rcases List.mem_cons.1 h with rfl | h
      · rfl
      · exact diffW_z r q _ y h
theorem newW_at : ∀ (b : List Res) (i j : Nat),(∀ y ∈ newW b i,y.1 ≠ i + j) → none = b[j]?
  | [],_,_,_ => by simp
  | z :: r,i,0,h => by
    rw [newW_cons] at h
    exact absurd rfl (h _ (List.mem_cons_self ..))
  | z :: r,i,j + 1,h => by
    rw [newW_cons] at h
    have := newW_at r (i + 1) j (fun y hy e => h y (List.mem_cons_of_mem _ hy) (by rw [e]; omega))
    simpa using this
theorem diffW_at : ∀ (a b : List Res) (i j : Nat),(∀ y ∈ diffW a b i,y.1 ≠ i + j) → a[j]? = b[j]?
  | [],b,i,j,h => by simpa using newW_at b i j h
  | x :: r,[],i,0,h => by
    rw [diffW_cn] at h
    exact absurd rfl (h _ (List.mem_cons_self ..))
  | x :: r,[],i,j + 1,h => by
    rw [diffW_cn] at h
    have := diffW_at r [] (i + 1) j (fun y hy e => h y (List.mem_cons_of_mem _ hy) (by rw [e]; omega))
    simpa using this
  | x :: r,z :: q,i,0,h => by
    rw [diffW_cc] at h
    split at h
    · rename_i hs; simp [sameR_ok hs]
    · exact absurd rfl (h _ (List.mem_cons_self ..))
  | x :: r,z :: q,i,j + 1,h => by
    rw [diffW_cc] at h
    have := diffW_at r q (i + 1) j (fun y hy e => h y (by split <;> first | exact hy | exact List.mem_cons_of_mem _ hy) (by rw [e]; omega))
    simpa using this
theorem diffW_outs (a b : List Res) : Outs (diffW a b 0) a b := outs_of (fun j h => diffW_at a b 0 j (fun y hy => by rw [Nat.zero_add]; exact h y hy)) (diffW_z a b 0)
inductive CallX where
  | pure (r : SV)
  | some (r : SV) (b : List Res)
  | bad (k g : Nat)
noncomputable def endX (V : Cx) (rs : List ResultVar) (σ : St) : EOut := match XT V σ rs with
  | some l => .ok (tupS l,σ.b)
  | none => .no 1 0
section
variable (V : Cx) (X : EPar V) (ih : EFun → List EItem → St → EOut)
noncomputable def callB (g : FuncId) (args : List SV) (b : List Res) (fn : Func) (how : Nat → List Nat) (c : Code) : Bool → CallX
  | true => match flat.flatL args with
    | true => match ih ⟨fn.ntmps,fn.results.toList,how⟩ [.code c] ⟨Yj 0 args,[]⟩ with
      | .ok (r,_) => match flat r with
        | true => .pure r
        | false => .bad 5 g
      | .no k g' => .bad k (g' * 1000 + g)
    | false => .bad 6 g
  | false => match within.withinL b.length args with
    | true => match ih ⟨fn.ntmps,fn.results.toList,how⟩ [.code c] ⟨Yj 0 args,b⟩ with
      | .ok (r,b') => .some r b'
      | .no k g' => .bad k (g' * 1000 + g)
    | false => .bad 7 g
noncomputable def callF (g : FuncId) (args : List SV) (b : List Res) : Option (Bool × Func × (Nat → List Nat)) → CallX
  | none => .bad 2 g
  | some (pu,fn,how) => match X.prim g args b with
    | some (r,b') => .some r b'
    | none => match fn.body with
      | none => .bad 3 g
      | some c => match Nat.ble (lenB args 0) fn.ntmps with
        | false => .bad 4 g
        | true => callB ih g args b fn how c pu
noncomputable def callX (g : FuncId) (args : List SV) (b : List Res) : CallX := forceSL args fun args => callF V X ih g args b (X.tbl.get g)
noncomputable def nextX (F : EFun) (k : List EItem) (t : List (Nat × SV)) (b : List Res) : EOut := forceT t fun t => ih F k ⟨t,b⟩
noncomputable def putX (F : EFun) (l : List EItem) (t : List (Nat × SV)) (b : List Res) (x : SV) : Option Tmp → EOut
  | some d => ih F l ⟨(d,x) :: t,b⟩
  | none => ih F l ⟨t,b⟩
noncomputable def goC (F : EFun) (ops : Array Oper) (dst : Option Tmp) (r : List Oper) (k : List EItem) (t : List (Nat × SV)) (b : List Res) : CallX → EOut
  | .pure x => forceQ x fun x => putX ih F (.ops ops r :: k) t b x dst
  | .some x b' => forceB b' fun b' => forceQ x fun x => putX ih F (.ops ops r :: k) t b' x dst
  | .bad k g => .no k g
noncomputable def goS (F : EFun) (ops : Array Oper) (dst : Option Tmp) (r : List Oper) (k : List EItem) (t : List (Nat × SV)) (b : List Res) : StepR → EOut
  | .go _ ⟨t',b'⟩ => forceB b' fun b' => nextX ih F (.ops ops r :: k) t' b'
  | .call g args _ _ => goC ih F ops dst r k t b (callX V X ih g args b)
  | .bad => .no 8 0
noncomputable def slowX (F : EFun) (ops : Array Oper) (dst : Option Tmp) (op : Op) (r : List Oper) (k : List EItem) (t : List (Nat × SV)) (b : List Res) : Bool → EOut
  | true => goS V X ih F ops dst r k t b (XR V dst op ⟨t,b⟩)
  | false => .no 9 0
def handB : Op → Bool
  | .move _ => true
  | .assign _ => true
  | .pick _ _ _ => true
  | .extract _ _ => true
  | _ => false
noncomputable def qGo (F : EFun) (l : List EItem) (dst : Option Tmp) (t : List (Nat × SV)) (b : List Res) (x : SV) : Bool → EOut
  | true => forceW x fun x => putX ih F l t b x dst
  | false => forceQ x fun x => putX ih F l t b x dst
noncomputable def stepX (F : EFun) (ops : Array Oper) (dst : Option Tmp) (op : Op) (r : List Oper) (k : List EItem) (t : List (Nat × SV)) (b : List Res) : Option SV → EOut
  | some x => qGo ih F (.ops ops r :: k) dst t b x (handB op)
  | none => slowX V X ih F ops dst op r k t b (okO V op ⟨t,b⟩)
noncomputable def go1D (F : EFun) (ops : Array Oper) (dst : Option Tmp) (r : List Oper) (rs : List Rk) (k : List EItem) (t : List (Nat × SV)) (b b' : List Res) (y : Rk) (x : SV) : EOut := nextX ih F (.dops ops r (rs ++ [y]) :: k) (put dst x t) b'
noncomputable def goCD (F : EFun) (ops : Array Oper) (dst : Option Tmp) (r : List Oper) (rs : List Rk) (k : List EItem) (t : List (Nat × SV)) (b : List Res) : CallX → EOut
  | .pure x => forceQ x fun x => putX ih F (.dops ops r (rs ++ [⟨false,false,[],[]⟩]) :: k) t b x dst
  | .some x b' => forceB b' fun b' => forceQ x fun x => putX ih F (.dops ops r (rs ++ [⟨true,false,[],diffW b' b 0⟩]) :: k) t b' x dst
  | .bad k g => .no k g
noncomputable def goSD (F : EFun) (ops : Array Oper) (dst : Option Tmp) (r : List Oper) (rs : List Rk) (k : List EItem) (t : List (Nat × SV)) (b : List Res) : StepD → EOut
  | .val _ ⟨x,none,all,rd,wr⟩ => go1D ih F ops dst r rs k t b b ⟨false,all,rd,wr⟩ x
  | .val _ ⟨x,some b',all,rd,wr⟩ => forceB b' fun b' => go1D ih F ops dst r rs k t b b' ⟨true,all,rd,wr⟩ x
  | .call g args => goCD ih F ops dst r rs k t b (callX V X ih g args b)
  | .bad => .no 10 0
noncomputable def slowXD (F : EFun) (ops : Array Oper) (dst : Option Tmp) (op : Op) (r : List Oper) (rs : List Rk) (k : List EItem) (t : List (Nat × SV)) (b : List Res) : Bool → EOut
  | true => goSD V X ih F ops dst r rs k t b (XV V op ⟨t,b⟩)
  | false => .no 11 0
noncomputable def stepXD (F : EFun) (ops : Array Oper) (dst : Option Tmp) (op : Op) (r : List Oper) (rs : List Rk) (k : List EItem) (t : List (Nat × SV)) (b : List Res) : Option SV → EOut
  | some x => qGo ih F (.dops ops r (rs ++ [⟨false,false,[],[]⟩]) :: k) dst t b x (handB op)
  | none => slowXD V X ih F ops dst op r rs k t b (okO V op ⟨t,b⟩)
noncomputable def doX (F : EFun) (ops : Array Oper) (dst : Option Tmp) (op : Op) (r : List Oper) (k : List EItem) (t : List (Nat × SV)) (b : List Res) : Bool → EOut
  | true => stepX V X ih F ops dst op r k t b (qOp V.Γ t op)
  | false => .no 12 0
noncomputable def doXD (F : EFun) (ops : Array Oper) (dst : Option Tmp) (op : Op) (r : List Oper) (rs : List Rk) (k : List EItem) (t : List (Nat × SV)) (b : List Res) : Bool → EOut
  | true => stepXD V X ih F ops dst op r rs k t b (qOp V.Γ t op)
  | false => .no 12 0
noncomputable def skipX (F : EFun) (ops : Array Oper) (r : List Oper) (k : List EItem) (t : List (Nat × SV)) (b : List Res) : Bool → EOut
  | true => ih F (.ops ops r :: k) ⟨t,b⟩
  | false => .no 13 0
noncomputable def skipXD (F : EFun) (ops : Array Oper) (r : List Oper) (rs : List Rk) (k : List EItem) (t : List (Nat × SV)) (b : List Res) : Bool → EOut
  | true => ih F (.dops ops r (rs ++ [⟨false,false,[],[]⟩]) :: k) ⟨t,b⟩
  | false => .no 13 0
noncomputable def grdW (F : EFun) (ops : Array Oper) (dst : Option Tmp) (op : Op) (r : List Oper) (k : List EItem) (want : Bool) (d : Nat) (t : List (Nat × SV)) (b : List Res) : Bool → EOut
  | true => doX V X ih F ops dst op r k ((d,.bool want) :: t) b (fits F.n dst && fits F.n (some d))
  | false => skipX ih F ops r k (put dst (.v undef) ((d,.bool (!want)) :: t)) b (fits F.n dst && fits F.n (some d))
noncomputable def grdX (F : EFun) (ops : Array Oper) (dst : Option Tmp) (op : Op) (r : List Oper) (k : List EItem) (want : Bool) (t : List (Nat × SV)) (b : List Res) (g : Option Tmp) : Option (Nat × Bool) → EOut
  | some (d,x) => grdW V X ih F ops dst op r k want d t b (x == want)
  | none => skipX ih F ops r k (put dst (.v undef) t) b (fits F.n dst && gvU t g)
noncomputable def grdWD (F : EFun) (ops : Array Oper) (dst : Option Tmp) (op : Op) (r : List Oper) (rs : List Rk) (k : List EItem) (want : Bool) (d : Nat) (t : List (Nat × SV)) (b : List Res) : Bool → EOut
  | true => doXD V X ih F ops dst op r rs k ((d,.bool want) :: t) b (fits F.n dst && fits F.n (some d))
  | false => skipXD ih F ops r rs k (put dst (.v undef) ((d,.bool (!want)) :: t)) b (fits F.n dst && fits F.n (some d))
noncomputable def grdXD (F : EFun) (ops : Array Oper) (dst : Option Tmp) (op : Op) (r : List Oper) (rs : List Rk) (k : List EItem) (want : Bool) (t : List (Nat × SV)) (b : List Res) (g : Option Tmp) : Option (Nat × Bool) → EOut
  | some (d,x) => grdWD V X ih F ops dst op r rs k want d t b (x == want)
  | none => skipXD ih F ops r rs k (put dst (.v undef) t) b (fits F.n dst && gvU t g)
noncomputable def qGuard (t : List (Nat × SV)) : Option Tmp → Option (Nat × Bool)
  | some d => match lkB d t with
    | some (.bool b) => some (d,b)
    | _ => none
  | none => none
theorem qGuard_eq (t : List (Nat × SV)) (o : Option Tmp) : qGuard t o = Yk t o := by
  cases o with
  | none => rfl
  | some d => simp only [qGuard,Yk,lkB_eq]; split <;> simp_all
noncomputable def operX (F : EFun) (ops : Array Oper) (r : List Oper) (k : List EItem) (t : List (Nat × SV)) (b : List Res) : Oper → EOut
  | ⟨dst,op,_,_,_,none⟩ => doX V X ih F ops dst op r k t b (fits F.n dst)
  | ⟨dst,op,_,_,_,some (j,want)⟩ => grdX V X ih F ops dst op r k want t b (gdst ops.toList j) (qGuard t (gdst ops.toList j))
noncomputable def operXD (F : EFun) (ops : Array Oper) (r : List Oper) (rs : List Rk) (k : List EItem) (t : List (Nat × SV)) (b : List Res) : Oper → EOut
  | ⟨dst,op,_,_,_,none⟩ => doXD V X ih F ops dst op r rs k t b (fits F.n dst)
  | ⟨dst,op,_,_,_,some (j,want)⟩ => grdXD V X ih F ops dst op r rs k want t b (gdst ops.toList j) (qGuard t (gdst ops.toList j))
noncomputable def opsX (F : EFun) (ops : Array Oper) (k : List EItem) (t : List (Nat × SV)) (b : List Res) : List Oper → EOut
  | [] => ih F k ⟨t,b⟩
  | o :: r => operX V X ih F ops r k t b o
noncomputable def dendX (F : EFun) (k : List EItem) (t : List (Nat × SV)) (b : List Res) : Bool → EOut
  | true => ih F k ⟨t,b⟩
  | false => .no 14 0
noncomputable def dopsX (F : EFun) (ops : Array Oper) (rs : List Rk) (k : List EItem) (t : List (Nat × SV)) (b : List Res) : List Oper → EOut
  | [] => dendX ih F k t b (okF ops rs)
  | o :: r => operXD V X ih F ops r rs k t b o
noncomputable def condX (F : EFun) (x y : Code) (k : List EItem) (t : List (Nat × SV)) (b : List Res) : Option SV → EOut
  | some (.bool true) => ih F (.code x :: k) ⟨t,b⟩
  | some (.bool false) => ih F (.code y :: k) ⟨t,b⟩
  | _ => .no 15 0
noncomputable def permX (F : EFun) (ops : Array Oper) (p : List Nat) (k : List EItem) (t : List (Nat × SV)) (b : List Res) : Bool → EOut
  | true => ih F (.dops (permD ops p) (permD ops p).toList [] :: k) ⟨t,b⟩
  | false => .no 16 0
noncomputable def drawX (F : EFun) (ops : Array Oper) (k : List EItem) (t : List (Nat × SV)) (b : List Res) : List Nat → EOut
  | [] => ih F (.dops ops ops.toList [] :: k) ⟨t,b⟩
  | x :: p => permX ih F ops (x :: p) k t b (permBb ops (x :: p))
noncomputable def regX (F : EFun) (id : Nat) (ops : Array Oper) (k : List EItem) (t : List (Nat × SV)) (b : List Res) : Bool → EOut
  | false => ih F (.ops ops ops.toList :: k) ⟨t,b⟩
  | true => drawX ih F ops k t b (F.how id)
noncomputable def exitO (F : EFun) (t : List (Nat × SV)) (b : List Res) : Option (List EItem) → EOut
  | some k => ih F k ⟨t,b⟩
  | none => .no 17 0
noncomputable def codeX (F : EFun) (k : List EItem) (t : List (Nat × SV)) (b : List Res) : Code → EOut
  | .skip => ih F k ⟨t,b⟩
  | .region id ops dr => regX ih F id ops k t b dr
  | .seq x y => ih F (.code x :: .code y :: k) ⟨t,b⟩
  | .cond c x y => condX ih F x y k t b (evB t c)
  | .block id x => ih F (.code x :: .endb id :: k) ⟨t,b⟩
  | .loop x => ih F (.code x :: .endx x :: k) ⟨t,b⟩
  | .exit id => exitO ih F t b (exitX id k)
  | .ret => endX V F.rs ⟨t,b⟩
  | _ => .no 18 0
noncomputable def itemX (F : EFun) (k : List EItem) (t : List (Nat × SV)) (b : List Res) : EItem → EOut
  | .code c => codeX V ih F k t b c
  | .ops ops l => opsX V X ih F ops k t b l
  | .dops ops l rs => dopsX V X ih F ops rs k t b l
  | .endb _ => ih F k ⟨t,b⟩
  | .endx x => ddM t 0 fun t => ih F (.code (.loop x) :: k) ⟨t,b⟩
noncomputable def listX (F : EFun) (t : List (Nat × SV)) (b : List Res) : List EItem → EOut
  | [] => endX V F.rs ⟨t,b⟩
  | i :: k => itemX V X ih F k t b i
noncomputable def exB (F : EFun) (l : List EItem) (σ : St) : EOut := match σ with
  | ⟨t,b⟩ => listX V X ih F t b l
end
noncomputable def ex (V : Cx) (X : EPar V) (f : Nat) : EFun → List EItem → St → EOut := Nat.rec (motive := fun _ => EFun → List EItem → St → EOut) (fun _ _ _ => .no 19 0) (fun _ ih => exB V X ih) f
noncomputable def exC (V : Cx) (X : EPar V) (f : Nat) (g : FuncId) (args : List SV) (b : List Res) : CallX := callX V X (ex V X f) g args b
end Vc
/- The executable reckoning is sound: what it gives is what the calls give. -/
set_option linter.all false
namespace Vc
open Go Go.RowKit Wf
def EqT (t t' : List (Nat × SV)) : Prop := ∀ d,lk d t = lk d t'
theorem EqT.refl (t : List (Nat × SV)) : EqT t t := fun _ => rfl
theorem EqT.symm {t t' : List (Nat × SV)} (h : EqT t t') : EqT t' t := fun d => (h d).symm
theorem EqT.trans {a b c : List (Nat × SV)} (h : EqT a b) (k : EqT b c) : EqT a c := fun d => (h d).trans (k d)
theorem EqT.cons {t t' : List (Nat × SV)} (h : EqT t t') (d : Nat) (x : SV) : EqT ((d,x) :: t) ((d,x) :: t') := fun e => by
  simp only [lk]; split
  · rfl
  · exact h e
theorem EqT.put {t t' : List (Nat × SV)} (h : EqT t t') (dst : Option Tmp) (x : SV) : EqT (put dst x t) (put dst x t') := by
  cases dst with
  | none => exact h
  | some d => exact h.cons d x
theorem EqT.ev {t t' : List (Nat × SV)} (h : EqT t t') : ev t = ev t' := by
  funext o
  cases o <;> simp only [Vc.ev]
  exact h _
theorem seenB_eq (m d : Nat) : seenB m d = m.testBit d := by
  unfold seenB
  show Nat.beq 1 (1 &&& (m >>> d)) = _
  rw [Nat.testBit]
  rw [Bool.eq_iff_iff,Nat.beq_eq]
  have : 1 &&& (m >>> d) = (m >>> d) % 2 := by rw [Nat.and_comm]; exact Nat.and_one_is_mod _
  rw [this]
  simp [Nat.and_comm]
  omega
theorem ddP_lk (e : Nat) : ∀ (t : List (Nat × SV)) (m : Nat),lk e (ddP t m) = if m.testBit e then none else lk e t
  | [],m => by simp [ddP,lk]
  | (d,x) :: r,m => by
    rw [ddP,lk]
    split
    · rename_i hs
      rw [seenB_eq] at hs
      rw [ddP_lk e r m]
      by_cases h : e = d
      · subst h; rw [hs]; rfl
      · rw [if_neg h]
    · rename_i hs
      rw [seenB_eq] at hs
      rw [lk,ddP_lk e r]
      have hb : (Nat.lor m (Nat.shiftLeft 1 d)).testBit e = (m.testBit e || decide (e = d)) := by
        show (m ||| (1 <<< d)).testBit e = _
        rw [Nat.testBit_or,Nat.testBit_shiftLeft]
        by_cases h : e = d
        · subst h; simp
        · by_cases h2 : d ≤ e
          · obtain ⟨k,hk⟩ : ∃ k,e - d = k + 1 := ⟨e - d - 1,by omega⟩
            have : Nat.testBit 1 (e - d) = false := by rw [hk,Nat.testBit_succ]; simp
            simp [h,h2,this]
          · simp [h,h2]
      rw [hb]
      by_cases h : e = d
      · subst h; rw [if_pos rfl,if_pos rfl]
        have : m.testBit e = false := by simpa using hs
        rw [this]; rfl
      · rw [if_neg h,if_neg h]; simp [h]
theorem ddP_eq (t : List (Nat × SV)) : EqT (ddP t 0) t := fun d => by rw [ddP_lk]; simp
section
variable {V : Cx} {t t' : List (Nat × SV)}
theorem xoptE_congr (h : EqT t t') (o : Option Operand) : optE t o = optE t' o := by cases o <;> simp only [optE,h.ev]
theorem xevs_congr (h : EqT t t') (l : List Operand) : evs t l = evs t' l := by unfold evs; rw [h.ev]
theorem xevParts_congr (h : EqT t t') : ∀ l : List (Nat × Operand),Xl t l = Xl t' l
  | [] => rfl
  | (i,o) :: r => by simp only [Xl,h.ev,xevParts_congr h r]
theorem xpv_congr {Γ : TypeId → Option TI} (h : EqT t t') (op : Op) : pv Γ t op = pv Γ t' op := by
  unfold pv
  split <;> simp only [XX,Ya,Xb,Xu,oBin,oUn,Ye,Xw,Xx,Xh,oLen,Yh,Xk,XS,oIface,oAssert,xoptE_congr h,xevs_congr h,xevParts_congr h,h.ev]
inductive AlikeN (dst : Option Tmp) (t t' : List (Nat × SV)) : Option (Prop × St) → Option (Prop × St) → Prop
  | none : AlikeN dst t t' none none
  | some (c : Prop) (x : SV) (b : List Res) : AlikeN dst t t' (some (c,⟨put dst x t,b⟩)) (some (c,⟨put dst x t',b⟩))
theorem xstepN_congr (h : EqT t t') (dst : Option Tmp) (op : Op) (b : List Res) : AlikeN dst t t' (Yl V dst op ⟨t,b⟩) (Yl V dst op ⟨t',b⟩) := by
  unfold Yl
  split
  · simp only [Xm,h.ev]
    (repeat' split) <;> first | exact .none | exact .some _ _ _
  · simp only [Xq,h.ev]
    (repeat' split) <;> first | exact .none | skip
    rename_i x hx y hy
    cases mmS true _ _ <;> first | exact .none | exact .some _ _ _
  · simp only [Xq,h.ev]
    (repeat' split) <;> first | exact .none | skip
    rename_i x hx y hy
    cases mmS false _ _ <;> first | exact .none | exact .some _ _ _
  · simp only [Yn,h.ev]
    (repeat' split) <;> first | exact .none | exact .some _ _ _
  · simp only [Xa,xevParts_congr h]
    (repeat' split) <;> first | exact .none | exact .some _ _ _
  · simp only [Xc,h.ev]
    (repeat' split) <;> first | exact .none | exact .some _ _ _
  · simp only [Xj,h.ev,xoptE_congr h]
    (repeat' split) <;> first | exact .none | exact .some _ _ _
  · simp only [nCap,h.ev]
    (repeat' split) <;> first | exact .none | exact .some _ _ _
  · simp only [Yb,h.ev]
    (repeat' split) <;> first | exact .none | exact .some _ _ _
  · exact .none
inductive AlikeR (dst : Option Tmp) (t t' : List (Nat × SV)) (b : List Res) : StepR → StepR → Prop
  | bad : AlikeR dst t t' b .bad .bad
  | go (c : Prop) (x : SV) (b' : List Res) : AlikeR dst t t' b (.go c ⟨put dst x t,b'⟩) (.go c ⟨put dst x t',b'⟩)
  | call (f : FuncId) (args : List SV) : AlikeR dst t t' b (.call f args dst ⟨t,b⟩) (.call f args dst ⟨t',b⟩)
theorem xstepM_congr (h : EqT t t') (dst : Option Tmp) (op : Op) (b : List Res) : AlikeR dst t t' b (Yd V dst op ⟨t,b⟩) (Yd V dst op ⟨t',b⟩) := by
  unfold Yd
  split
  · simp only [XC]
    (repeat' split) <;> first | exact .bad | exact .go _ _ _
  · simp only [sBox,h.ev]
    (repeat' split) <;> first | exact .bad | exact .go _ _ _
  · simp only [XU,h.ev]
    (repeat' split) <;> first | exact .bad | exact .go _ _ _
  · simp only [XH,h.ev]
    (repeat' split) <;> first | exact .bad | exact .go _ _ _
  · simp only [Xr,xevParts_congr h]
    (repeat' split) <;> first | exact .bad | exact .go _ _ _
  · simp only [sNil,h.ev]
    (repeat' split) <;> first | exact .bad | exact .go _ _ _
  · simp only [XL,h.ev,xevs_congr h]
    (repeat' split) <;> first | exact .bad | exact .call _ _
  · simp only [sInvoke,h.ev,xevs_congr h]
    (repeat' split) <;> first | exact .bad | exact .call _ _
  · simp only [sRange,h.ev]
    (repeat' split) <;> first | exact .bad | exact .go _ _ _
  · simp only [sNext,h.ev]
    (repeat' split) <;> first | exact .bad | (unfold nextV; (repeat' split) <;> exact .go _ _ _)
  · exact .bad
theorem xstepO_congr (h : EqT t t') (dst : Option Tmp) (op : Op) (b : List Res) : AlikeR dst t t' b (XR V dst op ⟨t,b⟩) (XR V dst op ⟨t',b⟩) := by
  unfold XR
  simp only [xpv_congr h]
  cases hp : pv V.Γ t' op with
  | some p => obtain ⟨c,x⟩ := p; exact .go _ _ _
  | none =>
    simp only [goR]
    have h2 := xstepN_congr (V := V) h dst op b
    generalize Yl V dst op ⟨t,b⟩ = A at h2
    generalize Yl V dst op ⟨t',b⟩ = B at h2
    cases h2 with
    | none => exact xstepM_congr h dst op b
    | some c x b' => exact .go _ _ _
theorem xstepDM_congr (h : EqT t t') (op : Op) (b : List Res) : Xv V op ⟨t,b⟩ = Xv V op ⟨t',b⟩ := by
  unfold Xv
  split <;> simp only [XD,dBox,XI,XF,XB,dNil,XK,xevParts_congr h,xevs_congr h,h.ev]
theorem xstepD_congr (h : EqT t t') (op : Op) (b : List Res) : XV V op ⟨t,b⟩ = XV V op ⟨t',b⟩ := by
  unfold XV
  simp only [xpv_congr h,xstepDM_congr h]
  cases hp : pv V.Γ t' op with
  | some p => obtain ⟨c,x⟩ := p; rfl
  | none =>
    simp only [goD]
    have h2 := xstepN_congr (V := V) h (some 0) op b
    generalize Yl V (some 0) op ⟨t,b⟩ = A at h2
    generalize Yl V (some 0) op ⟨t',b⟩ = B at h2
    cases h2 with
    | none => rfl
    | some c x b' => simp only [dN,put,h.ev]
theorem xresS_congr (h : EqT t t') (b : List Res) (r : ResultVar) : resS V ⟨t,b⟩ r = resS V ⟨t',b⟩ r := by
  cases r <;> simp only [resS,h _]
theorem xressS_congr (h : EqT t t') (b : List Res) : ∀ rs : List ResultVar,XT V ⟨t,b⟩ rs = XT V ⟨t',b⟩ rs
  | [] => rfl
  | r :: rs => by simp only [XT,xresS_congr h,xressS_congr h b rs]
theorem xgvalD_congr (h : EqT t t') (o : Option Tmp) : Yk t o = Yk t' o := by
  cases o <;> simp only [Yk,h _]
theorem xgvU_congr (h : EqT t t') (o : Option Tmp) : gvU t o = gvU t' o := by
  cases o <;> simp only [gvU,h _]
end
inductive ItR (V : Cx) (X : EPar V) (F : EFun) (out : SV × List Res) (N : Nat) : List EItem → List Item → Prop
  | nil : ItR V X F out N [] []
  | code {k k'} (c : Code) : ItR V X F out N k k' → ItR V X F out N (.code c :: k) (.code c :: k')
  | ops {k k'} (ops : Array Oper) (l : List Oper) : ItR V X F out N k k' → ItR V X F out N (.ops ops l :: k) (.ops ops l :: k')
  | dops {k k'} (ops : Array Oper) (l : List Oper) (rs : List Rk) : ItR V X F out N k k' → ItR V X F out N (.dops ops l rs :: k) (.dops ops l rs :: k')
  | endb {k k'} (id : Nat) : ItR V X F out N k k' → ItR V X F out N (.endb id :: k) (.endb id :: k')
  | endx {k k'} (x : Code) (I : St → Prop) (μ : St → Nat) (m : Nat) : ItR V X F out N k k' → N ≤ m → (∀ i,i < m → ∀ tX σ,EqT tX σ.t → ex V X i F (.code (.loop x) :: k) ⟨tX,σ.b⟩ = .ok out → I σ ∧ μ σ < m) → ItR V X F out N (.endx x :: k) (.endl I μ m :: k')
theorem ItR.mono {V : Cx} {X : EPar V} {F : EFun} {out : SV × List Res} {N M : Nat} (hM : M ≤ N) {l : List EItem} {l' : List Item} (h : ItR V X F out N l l') : ItR V X F out M l l' := by
  induction h with
  | nil => exact .nil
  | code c _ ih => exact .code c ih
  | ops o l _ ih => exact .ops o l ih
  | dops o l rs _ ih => exact .dops o l rs ih
  | endb id _ ih => exact .endb id ih
  | endx x I μ m _ h1 h2 ih => exact .endx x I μ m ih (Nat.le_trans hM h1) h2
theorem exit_rel {V : Cx} {X : EPar V} {F : EFun} {out : SV × List Res} {N : Nat} {id : Nat} {l : List EItem} {l' : List Item} (h : ItR V X F out N l l') : ∀ {k},exitX id l = some k → ∃ k',XE id l' = some k' ∧ ItR V X F out N k k' := by
  induction h with
  | nil => intro k hk; cases hk
  | code c _ ih => intro k hk; simp only [exitX] at hk; simp only [XE]; exact ih hk
  | ops o l _ ih => intro k hk; simp only [exitX] at hk; simp only [XE]; exact ih hk
  | dops o l rs _ ih => intro k hk; simp only [exitX] at hk; simp only [XE]; exact ih hk
  | endb id' h ih =>
    intro k hk
    simp only [exitX] at hk
    simp only [XE]
    split at hk
    · rename_i e; cases hk; rw [if_pos e]; exact ⟨_,rfl,h⟩
    · rename_i e; rw [if_neg e]; exact ih hk
  | endx x I μ m _ _ _ ih => intro k hk; simp only [exitX] at hk; simp only [XE]; exact ih hk
section
variable {V : Cx} {X : EPar V}
def CallOk (V : Cx) (g : FuncId) (args : List SV) (b : List Res) : CallX → Prop
  | .pure r => PC V g args r
  | .some r b' => SC V g args b (fun r' b2 => r' = r ∧ b2 = b')
  | .bad _ _ => True
def finE (F : EFun) (out : SV × List Res) : Fin := ⟨F.rs,fun r b => r = out.1 ∧ b = out.2,fun id => .ord (F.how id),false⟩
def RunOk (V : Cx) (X : EPar V) (j : Nat) : Prop := ∀ (F : EFun) (out : SV × List Res) (m : Nat) (l : List EItem) (l' : List Item) (tX : List (Nat × SV)) (σ : St),j ≤ m → ItR V X F out j l l' → EqT tX σ.t → ex V X j F l ⟨tX,σ.b⟩ = .ok out → vcS V F.n (finE F out) m l' σ
theorem putX_eq (ih : EFun → List EItem → St → EOut) (F : EFun) (l : List EItem) (t : List (Nat × SV)) (b : List Res) (x : SV) (dst : Option Tmp) : putX ih F l t b x dst = ih F l ⟨put dst x t,b⟩ := by cases dst <;> rfl
theorem call_ok {j : Nat} (hent : X.tbl.ok V) (hprim : ∀ g args b r b',X.prim g args b = some (r,b') → SC V g args b (fun r' b2 => r' = r ∧ b2 = b')) (H : RunOk V X j) (g : FuncId) (args : List SV) (b : List Res) : CallOk V g args b (callX V X (ex V X j) g args b) := by
  have body : ∀ (fn : Func) (how : Nat → List Nat) (c : Code) (b : List Res) (r : SV) (b' : List Res),Enters V g → V.P.funcs[g]? = some fn → fn.body = some c → args.length ≤ fn.ntmps → (∀ β β',Agr b.length β β' → concL β args = concL β' args) → ex V X j ⟨fn.ntmps,fn.results.toList,how⟩ [.code c] ⟨Yj 0 args,b⟩ = .ok (r,b') → SC V g args b (fun r' b2 => r' = r ∧ b2 = b') := fun fn how c b r b' he hf hb hl hw hx =>
    sc_ofP (fun id => .ord (how id)) j hf hb rfl rfl he hl hw (H ⟨fn.ntmps,fn.results.toList,how⟩ (r,b') j [.code c] [.code c] (Yj 0 args) ⟨Yj 0 args,b⟩ (Nat.le_refl _) (.code c .nil) (EqT.refl _) hx)
  unfold callX
  rw [forceSL_eq]
  unfold callF
  split
  · trivial
  rename_i pu fn how hg
  obtain ⟨hf,he⟩ := FT.get_ok hent hg
  split
  · rename_i r b' hp
    exact hprim _ _ _ _ _ hp
  split
  · trivial
  rename_i c hb
  split
  · trivial
  rename_i hl
  rw [lenB_eq,Nat.zero_add] at hl
  have hl := Nat.le_of_ble_eq_true hl
  unfold callB
  split
  · split
    · rename_i fa
      split
      · rename_i r b1 hx
        have h0 := body fn how c [] r b1 he hf hb hl (fun β β' _ => concL_flat args fa β β') hx
        split
        · rename_i fr
          exact pc_of_sc fa fr (h0.mono fun r' b2 h => h.1)
        · trivial
      · trivial
    · trivial
  · split
    · rename_i hw
      split
      · rename_i r b' hx
        exact body fn how c b r b' he hf hb hl (fun β β' hag => concL_within _ _ hw β β' hag) hx
      · trivial
    · trivial
section
variable {j m : Nat} {F : EFun} {out : SV × List Res} (hent : X.tbl.ok V) (hprim : ∀ g args b r b',X.prim g args b = some (r,b') → SC V g args b (fun r' b2 => r' = r ∧ b2 = b')) (H : RunOk V X j) (hjm : j ≤ m)
include hent hprim H hjm
theorem do_ok {ops : Array Oper} {dst : Option Tmp} {op : Op} {r : List Oper} {k : List EItem} {k' : List Item} {tX : List (Nat × SV)} {σ : St} {c : Bool} (hI : ItR V X F out j k k') (hT : EqT tX σ.t) (h : doX V X (ex V X j) F ops dst op r k tX σ.b c = .ok out) : c = true ∧ Yc V F.n (finE F out) m ops r k' (XR V dst op σ) := by
  cases c
  · cases h
  refine ⟨rfl,?_⟩
  have IH : ∀ (t : List (Nat × SV)) (t' : List (Nat × SV)) (b : List Res),EqT t t' → ex V X j F (.ops ops r :: k) ⟨t,b⟩ = .ok out → vcS V F.n (finE F out) m (.ops ops r :: k') ⟨t',b⟩ := fun t t' b ht hx => H F out m _ _ t ⟨t',b⟩ hjm (.ops ops r hI) ht hx
  obtain ⟨t,b⟩ := σ
  simp only at hT h
  simp only [doX] at h
  cases hq : qOp V.Γ tX op with
  | some x =>
    rw [hq] at h
    obtain ⟨c,hp,hc⟩ := qOp_ok hq
    rw [xpv_congr hT] at hp
    have h2 : ex V X j F (.ops ops r :: k) ⟨put dst x tX,b⟩ = .ok out := by
      simp only [stepX] at h
      cases hh : handB op <;> rw [hh] at h <;> simp only [qGo,forceQ_eq,forceW_eq] at h <;> cases dst <;> exact h
    simp only [XR,hp,goR,Yc]
    exact ⟨hc,IH _ _ _ (hT.put dst x) h2⟩
  | none =>
    rw [hq] at h
    simp only [stepX] at h
    cases ho : okO V op ⟨tX,b⟩
    · rw [ho] at h; cases h
    rw [ho] at h
    simp only [slowX] at h
    have hs := xstepO_congr (V := V) hT dst op b
    generalize hA : XR V dst op ⟨tX,b⟩ = A at hs h
    generalize XR V dst op ⟨t,b⟩ = B at hs ⊢
    cases hs with
    | bad => cases h
    | go c x b' =>
      simp only [goS,forceB_eq,nextX,forceT_eq] at h
      simp only [Yc]
      exact ⟨stepO_c hA ho,IH _ _ _ (hT.put dst x) h⟩
    | call g args =>
      simp only [goS] at h
      have hc := call_ok hent hprim H g args b
      cases hx : callX V X (ex V X j) g args b with
      | pure x =>
        rw [hx] at h hc
        simp only [goC,forceQ_eq,putX_eq] at h
        simp only [Yc,callV]
        exact .inl ⟨x,hc,IH _ _ _ (hT.put dst x) h⟩
      | some x b' =>
        rw [hx] at h hc
        simp only [goC,forceQ_eq,putX_eq,forceB_eq] at h
        simp only [Yc,callV]
        refine .inr ⟨_,hc,fun _ => ⟨_,_,⟨rfl,rfl⟩,hc⟩,?_⟩
        rintro x2 b2 ⟨rfl,rfl⟩
        exact IH _ _ _ (hT.put dst _) h
      | bad _ _ => rw [hx] at h; cases h
theorem doD_ok {ops : Array Oper} {dst : Option Tmp} {op : Op} {r : List Oper} {rs : List Rk} {k : List EItem} {k' : List Item} {tX : List (Nat × SV)} {σ : St} {c : Bool} (hI : ItR V X F out j k k') (hT : EqT tX σ.t) (h : doXD V X (ex V X j) F ops dst op r rs k tX σ.b c = .ok out) : c = true ∧ Yg V F.n (finE F out) m ops r rs k' dst σ (XV V op σ) := by
  cases c
  · cases h
  refine ⟨rfl,?_⟩
  have IH : ∀ (y : Rk) (t : List (Nat × SV)) (t' : List (Nat × SV)) (b : List Res),EqT t t' → ex V X j F (.dops ops r (rs ++ [y]) :: k) ⟨t,b⟩ = .ok out → vcS V F.n (finE F out) m (.dops ops r (rs ++ [y]) :: k') ⟨t',b⟩ := fun y t t' b ht hx => H F out m _ _ t ⟨t',b⟩ hjm (.dops ops r _ hI) ht hx
  obtain ⟨t,b⟩ := σ
  simp only at hT h
  simp only [doXD] at h
  cases hq : qOp V.Γ tX op with
  | some x =>
    rw [hq] at h
    obtain ⟨c,hp,hc⟩ := qOp_ok hq
    rw [xpv_congr hT] at hp
    have h2 : ex V X j F (.dops ops r (rs ++ [⟨false,false,[],[]⟩]) :: k) ⟨put dst x tX,b⟩ = .ok out := by
      simp only [stepXD] at h
      cases hh : handB op <;> rw [hh] at h <;> simp only [qGo,forceQ_eq,forceW_eq] at h <;> cases dst <;> exact h
    simp only [XV,hp,goD,valD,Yg]
    exact ⟨hc,IH _ _ _ _ (hT.put dst x) h2⟩
  | none =>
    rw [hq] at h
    simp only [stepXD] at h
    cases ho : okO V op ⟨tX,b⟩
    · rw [ho] at h; cases h
    rw [ho] at h
    simp only [slowXD] at h
    rw [← xstepD_congr (V := V) hT op b]
    cases hA : XV V op ⟨tX,b⟩ with
    | bad => rw [hA] at h; cases h
    | val c r' =>
      rw [hA] at h
      have hc := stepD_c hA ho
      obtain ⟨x,nb,all,rd,wr⟩ := r'
      cases nb with
      | none =>
        simp only [goSD,go1D,nextX,forceT_eq] at h
        simp only [Yg]
        exact ⟨hc,IH _ _ _ _ (hT.put dst x) h⟩
      | some b' =>
        simp only [goSD,go1D,nextX,forceT_eq,forceB_eq] at h
        simp only [Yg]
        exact ⟨hc,IH _ _ _ _ (hT.put dst x) h⟩
    | call g args =>
      rw [hA] at h
      simp only [goSD] at h
      have hc := call_ok hent hprim H g args b
      cases hx : callX V X (ex V X j) g args b with
      | pure x =>
        rw [hx] at h hc
        simp only [goCD,forceQ_eq,putX_eq] at h
        simp only [Yg,callD]
        exact .inl ⟨x,hc,IH _ _ _ _ (hT.put dst x) h⟩
      | some x b' =>
        rw [hx] at h hc
        simp only [goCD,forceQ_eq,putX_eq,forceB_eq] at h
        simp only [Yg,callD]
        exact .inr (.inr ⟨x,b',_,hc,diffW_outs b' b,IH _ _ _ _ (hT.put dst x) h⟩)
      | bad _ _ => rw [hx] at h; cases h
end
theorem run_ok (hent : X.tbl.ok V) (hprim : ∀ g args b r b',X.prim g args b = some (r,b') → SC V g args b (fun r' b2 => r' = r ∧ b2 = b')) : ∀ i,RunOk V X i := by
  intro i
  induction i using Nat.strongRecOn with
  | _ i ih =>
  intro F out m l l' tX σ him hI hT h
  cases i with
  | zero => cases h
  | succ j =>
  cases m with
  | zero => exact absurd him (by omega)
  | succ m =>
  have hjm : j ≤ m := by omega
  have H := ih j (by omega)
  obtain ⟨t,b⟩ := σ
  simp only at hT h
  have h : listX V X (ex V X j) F tX b l = .ok out := h
  have go : ∀ (l : List EItem) (l' : List Item) (tX t : List (Nat × SV)) (b : List Res),ItR V X F out j l l' → EqT tX t → ex V X j F l ⟨tX,b⟩ = .ok out → vcS V F.n (finE F out) m l' ⟨t,b⟩ := fun l l' tX t b h1 h2 h3 => H F out m l l' tX ⟨t,b⟩ hjm h1 h2 h3
  have fin : endX V F.rs ⟨tX,b⟩ = .ok out → endV V (finE F out) ⟨t,b⟩ (XT V ⟨t,b⟩ F.rs) := fun h => by
    unfold endX at h
    rw [xressS_congr hT] at h
    cases hr : XT V ⟨t,b⟩ F.rs with
    | none => rw [hr] at h; cases h
    | some l => rw [hr] at h; cases h; exact ⟨rfl,rfl⟩
  cases hI with
  | nil => simp only [vcS]; exact fin h
  | endb id hk => simp only [vcS]; exact go _ _ _ _ _ (hk.mono (by omega)) hT h
  | endx x I μ m' hk hm hi =>
    simp only [listX,itemX,ddM_eq] at h
    simp only [vcS]
    exact hi j (by omega) _ ⟨t,b⟩ ((ddP_eq tX).trans hT) h
  | ops ops l hk =>
    have hk := hk.mono (Nat.le_succ j)
    cases l with
    | nil => simp only [vcS]; exact go _ _ _ _ _ hk hT h
    | cons o r =>
      obtain ⟨dst,op,i1,i2,i3,g⟩ := o
      cases g with
      | none => simp only [vcS]; exact do_ok hent hprim H hjm (σ := ⟨t,b⟩) hk hT h
      | some g =>
        obtain ⟨q,want⟩ := g
        simp only [listX,itemX,opsX,operX] at h
        rw [qGuard_eq,xgvalD_congr hT] at h
        simp only [vcS]
        generalize gdst ops.toList q = gd at h ⊢
        cases hg : Yk t gd with
        | none =>
          rw [hg] at h
          simp only [grdX,skipX] at h
          rw [xgvU_congr hT] at h
          cases hf : fits F.n dst <;> cases hu : gvU t gd <;> rw [hf,hu] at h <;> try (cases h; done)
          simp only [XA]
          exact ⟨trivial,go _ _ _ _ _ (.ops _ _ hk) (hT.put _ _) h⟩
        | some p =>
          obtain ⟨d,x⟩ := p
          rw [hg] at h
          simp only [grdX] at h
          simp only [XA]
          cases hx : x == want
          · rw [hx] at h
            simp only [grdW] at h
            cases hf : fits F.n dst <;> cases hu : fits F.n (some d) <;> rw [hf,hu] at h <;> try (cases h; done)
            refine ⟨rfl,rfl,fun e => ?_,fun e => go _ _ _ _ _ (.ops _ _ hk) ((hT.cons _ _).put _ _) h⟩
            subst e; simp at hx
          · rw [hx] at h
            simp only [grdW] at h
            obtain ⟨h1,h2⟩ := do_ok hent hprim H hjm (σ := ⟨(d,.bool want) :: t,b⟩) hk (hT.cons _ _) h
            simp only [Bool.and_eq_true] at h1
            refine ⟨h1.1,h1.2,fun _ => h2,fun e => ?_⟩
            subst e; cases want <;> simp at hx
  | dops ops l rs hk =>
    have hk := hk.mono (Nat.le_succ j)
    cases l with
    | nil =>
      simp only [listX,itemX,dopsX] at h
      cases ho : okF ops rs
      · rw [ho] at h; cases h
      rw [ho] at h
      simp only [vcS]
      exact ⟨OkD_fast ho,go _ _ _ _ _ hk hT h⟩
    | cons o r =>
      obtain ⟨dst,op,i1,i2,i3,g⟩ := o
      cases g with
      | none => simp only [vcS]; exact doD_ok hent hprim H hjm (σ := ⟨t,b⟩) hk hT h
      | some g =>
        obtain ⟨q,want⟩ := g
        simp only [listX,itemX,dopsX,operXD] at h
        rw [qGuard_eq,xgvalD_congr hT] at h
        simp only [vcS]
        generalize gdst ops.toList q = gd at h ⊢
        cases hg : Yk t gd with
        | none =>
          rw [hg] at h
          simp only [grdXD,skipXD] at h
          rw [xgvU_congr hT] at h
          cases hf : fits F.n dst <;> cases hu : gvU t gd <;> rw [hf,hu] at h <;> try (cases h; done)
          simp only [Xy]
          exact ⟨trivial,go _ _ _ _ _ (.dops _ _ _ hk) (hT.put _ _) h⟩
        | some p =>
          obtain ⟨d,x⟩ := p
          rw [hg] at h
          simp only [grdXD] at h
          simp only [Xy]
          cases hx : x == want
          · rw [hx] at h
            simp only [grdWD] at h
            cases hf : fits F.n dst <;> cases hu : fits F.n (some d) <;> rw [hf,hu] at h <;> try (cases h; done)
            refine ⟨rfl,rfl,fun e => ?_,fun e => go _ _ _ _ _ (.dops _ _ _ hk) ((hT.cons _ _).put _ _) h⟩
            subst e; simp at hx
          · rw [hx] at h
            simp only [grdWD] at h
            obtain ⟨h1,h2⟩ := doD_ok hent hprim H hjm (σ := ⟨(d,.bool want) :: t,b⟩) hk (hT.cons _ _) h
            simp only [Bool.and_eq_true] at h1
            refine ⟨h1.1,h1.2,fun _ => h2,fun e => ?_⟩
            subst e; cases want <;> simp at hx
  | @code k k' c hk =>
    have hk1 := hk
    replace hk := hk.mono (Nat.le_succ j)
    cases c with
    | skip => simp only [vcS]; exact go _ _ _ _ _ hk hT h
    | ret => simp only [vcS]; exact fin h
    | seq x y => simp only [vcS]; exact go _ _ _ _ _ (.code x (.code y hk)) hT h
    | block id x => simp only [vcS]; exact go _ _ _ _ _ (.code x (.endb id hk)) hT h
    | region id ops dr =>
      cases dr
      · simp only [vcS]; exact go _ _ _ _ _ (.ops _ _ hk) hT h
      · simp only [listX,itemX,codeX,regX] at h
        simp only [vcS,finE]
        generalize F.how id = p at h
        cases p with
        | nil => simp only [regV]; exact ⟨trivial,go _ _ _ _ _ (.dops _ _ _ hk) hT h⟩
        | cons x p =>
          simp only [drawX] at h
          cases hb : permBb ops (x :: p)
          · rw [hb] at h; cases h
          rw [hb] at h
          simp only [regV]; exact ⟨hb,go _ _ _ _ _ (.dops _ _ _ hk) hT h⟩
    | cond c x y =>
      simp only [listX,itemX,codeX,evB_eq,hT.ev] at h
      simp only [vcS]
      cases he : ev t c with
      | none => rw [he] at h; cases h
      | some v =>
        rw [he] at h
        cases v <;> try (cases h; done)
        rename_i q
        cases q
        · simp only [XN]; exact ⟨fun e => (by cases e),fun _ => go _ _ _ _ _ (.code y hk) hT h⟩
        · simp only [XN]; exact ⟨fun _ => go _ _ _ _ _ (.code x hk) hT h,fun e => (by cases e)⟩
    | exit id =>
      simp only [listX,itemX,codeX] at h
      simp only [vcS]
      cases he : exitX id k with
      | none => rw [he] at h; cases h
      | some kk =>
        rw [he] at h
        obtain ⟨kk',h1,h2⟩ := exit_rel hk he
        rw [h1]; simp only [XO]
        exact go _ _ _ _ _ h2 hT h
    | loop x =>
      let P : St → Nat → Prop := fun σ n => n ≤ j + 1 ∧ ∃ tX,EqT tX σ.t ∧ ex V X n F (.code (.loop x) :: k) ⟨tX,σ.b⟩ = .ok out
      obtain ⟨μ,hμ⟩ : ∃ μ : St → Nat,∀ σ,(∃ n,P σ n) → P σ (μ σ) ∧ ∀ n,P σ n → μ σ ≤ n := by
        classical
        refine ⟨fun σ => if hn : ∃ n,P σ n then Classical.choose (least hn) else 0,fun σ hn => ?_⟩
        simp only
        rw [dif_pos hn]
        exact Classical.choose_spec (least hn)
      simp only [vcS,loopV]
      refine ⟨fun σ => ∃ n,P σ n,μ,⟨j + 1,Nat.le_refl _,tX,hT,h⟩,?_⟩
      intro σ' hn
      obtain ⟨⟨hle,tX',hT',hx⟩,hmin⟩ := hμ σ' hn
      generalize μ σ' = n0 at hle hx hmin ⊢
      cases n0 with
      | zero => cases hx
      | succ j0 =>
      have hx : ex V X j0 F (.code x :: .endx x :: k) ⟨tX',σ'.b⟩ = .ok out := hx
      refine ih j0 (by omega) F out m _ _ tX' σ' (by omega) (.code x (.endx x _ _ _ (hk1.mono (by omega)) (by omega) ?_)) hT' hx
      intro i2 hi2 t2 σ2 hT2 hx2
      have hp2 : P σ2 i2 := ⟨by omega,t2,hT2,hx2⟩
      have := (hμ σ2 ⟨i2,hp2⟩).2 i2 hp2
      exact ⟨⟨i2,hp2⟩,by omega⟩
    | _ => cases h
theorem exC_ok (hent : X.tbl.ok V) (hprim : ∀ g args b r b',X.prim g args b = some (r,b') → SC V g args b (fun r' b2 => r' = r ∧ b2 = b')) (f : Nat) (g : FuncId) (args : List SV) (b : List Res) : CallOk V g args b (exC V X f g args b) := call_ok hent hprim (run_ok hent hprim f) g args b
end
end Vc
/- The check of chapter 17 answers true: the program is run by the kernel. -/
set_option linter.all false
namespace Vc
open Go Go.RowKit Wf
theorem PC.sc {V : Cx} {f : FuncId} {args : List SV} {bs : List Res} {x : SV} (h : PC V f args x) : SC V f args bs (fun r b => r = x ∧ b = bs) := by
  refine ⟨h.enters,fun β fp w hbx hG hE => ?_⟩
  rw [concL_flat args h.fa β bt0]
  refine (h.calls w hE).mono ?_
  rintro e w' ⟨he,hb⟩
  have hb0 := hbx β (Agr.refl _ _)
  refine ⟨x,bs,β,fp,⟨rfl,rfl⟩,Agr.refl _ _,Nat.le_refl _,fun β' hβ => ⟨by rw [he,conc_flat x h.fr bt0 β'],⟨fun i r hi => ((hbx β' hβ).holds i r hi).stays (fun k hk => hb.block k (hb0.lt i r hi k hk)),fun i r hi k hk => Nat.lt_of_lt_of_le (hb0.lt i r hi k hk) hb.size,hb0.sep⟩⟩,FrW.of_below hb,fun i r hi hm k hk => .inr ⟨i,r,hi,hm,hk⟩,fun i r hi k hk => .inr ⟨i,r,hi,hk⟩⟩
end Vc
namespace Go.Proofs.YtejfjmcjicpodaaGreatDoor
open Go Vc Go.RowKit Wf
set_option maxRecDepth 100000
noncomputable def ftSane : FT := (.node (.node (.node (.node (.node (.node .nil 7 false Tryz.f7 (fun _ => []) .nil) 9 false Tryz.f9 (fun _ => []) .nil) 10 false Tryz.f10 (fun _ => []) (.node .nil 13 false Tryz.f13 (fun _ => []) .nil)) 20 false Tryz.f20 (fun _ => []) (.node (.node (.node .nil 21 false Tryz.f21 (fun _ => []) .nil) 22 false Tryz.f22 (fun _ => []) .nil) 23 true Tryz.f23 (fun _ => []) (.node .nil 24 false Tryz.f24 (fun _ => []) .nil))) 25 true Tryz.f25 (fun _ => []) (.node (.node (.node (.node .nil 26 false Tryz.f26 (fun _ => []) .nil) 27 false Tryz.f27 (fun _ => []) .nil) 28 false Tryz.f28 (fun _ => []) (.node .nil 29 false Tryz.f29 (fun _ => []) .nil)) 30 false Tryz.f30 (fun _ => []) (.node (.node (.node .nil 31 false Tryz.f31 (fun _ => []) .nil) 40 false Tryz.f40 (fun _ => []) .nil) 41 false Tryz.f41 (fun _ => []) (.node .nil 42 false Tryz.f42 (fun _ => []) .nil)))) 54 true Tryz.f54 (fun _ => []) (.node (.node (.node (.node (.node .nil 55 true Tryz.f55 (fun _ => []) .nil) 56 true Tryz.f56 (fun _ => []) .nil) 57 false Tryz.f57 (fun _ => []) (.node .nil 58 false Tryz.f58 (fun _ => []) .nil)) 59 true Tryz.f59 (fun _ => []) (.node (.node (.node .nil 65 false Tryz.f65 (fun _ => []) .nil) 66 false Tryz.f66 (fun _ => []) .nil) 67 true Tryz.f67 (fun _ => []) (.node .nil 68 true Tryz.f68 (fun _ => []) .nil))) 79 true Tryz.f79 (fun _ => []) (.node (.node (.node (.node .nil 85 true Tryz.f85 (fun _ => []) .nil) 86 true Tryz.f86 (fun _ => []) .nil) 87 true Tryz.f87 (fun _ => []) (.node .nil 88 true Tryz.f88 (fun _ => []) .nil)) 104 true Tryz.f104 (fun _ => []) (.node (.node (.node .nil 105 true Tryz.f105 (fun _ => []) .nil) 118 true Tryz.f118 (fun _ => []) .nil) 119 true Tryz.f119 (fun _ => []) (.node .nil 134 true Tryz.f134 (fun _ => []) .nil)))))
theorem ftSane_ok : ftSane.ok Tryz.V := ⟨Tryz.func54,Tryz.call54,⟨Tryz.func25,Tryz.call25,⟨Tryz.func20,Tryz.call20,⟨Tryz.func10,Tryz.call10,⟨Tryz.func9,Tryz.call9,⟨Tryz.func7,Tryz.call7,trivial,trivial⟩,trivial⟩,⟨Tryz.func13,Tryz.call13,trivial,trivial⟩⟩,⟨Tryz.func23,Tryz.call23,⟨Tryz.func22,Tryz.call22,⟨Tryz.func21,Tryz.call21,trivial,trivial⟩,trivial⟩,⟨Tryz.func24,Tryz.call24,trivial,trivial⟩⟩⟩,⟨Tryz.func30,Tryz.call30,⟨Tryz.func28,Tryz.call28,⟨Tryz.func27,Tryz.call27,⟨Tryz.func26,Tryz.call26,trivial,trivial⟩,trivial⟩,⟨Tryz.func29,Tryz.call29,trivial,trivial⟩⟩,⟨Tryz.func41,Tryz.call41,⟨Tryz.func40,Tryz.call40,⟨Tryz.func31,Tryz.call31,trivial,trivial⟩,trivial⟩,⟨Tryz.func42,Tryz.call42,trivial,trivial⟩⟩⟩⟩,⟨Tryz.func79,Tryz.call79,⟨Tryz.func59,Tryz.call59,⟨Tryz.func57,Tryz.call57,⟨Tryz.func56,Tryz.call56,⟨Tryz.func55,Tryz.call55,trivial,trivial⟩,trivial⟩,⟨Tryz.func58,Tryz.call58,trivial,trivial⟩⟩,⟨Tryz.func67,Tryz.call67,⟨Tryz.func66,Tryz.call66,⟨Tryz.func65,Tryz.call65,trivial,trivial⟩,trivial⟩,⟨Tryz.func68,Tryz.call68,trivial,trivial⟩⟩⟩,⟨Tryz.func104,Tryz.call104,⟨Tryz.func87,Tryz.call87,⟨Tryz.func86,Tryz.call86,⟨Tryz.func85,Tryz.call85,trivial,trivial⟩,trivial⟩,⟨Tryz.func88,Tryz.call88,trivial,trivial⟩⟩,⟨Tryz.func119,Tryz.call119,⟨Tryz.func118,Tryz.call118,⟨Tryz.func105,Tryz.call105,trivial,trivial⟩,trivial⟩,⟨Tryz.func134,Tryz.call134,trivial,trivial⟩⟩⟩⟩⟩
def sA1 : List SV := [.str ([100,105,100,58,119,101,98,58,97,46,101,120,97,109,112,108,101] : List UInt8)]
def sR1 : SV := .tup [.agg [.str ([119,101,98] : List UInt8),.str ([97,46,101,120,97,109,112,108,101] : List UInt8)],.int .i64 0]
def sR2 : SV := .tup [.agg [.str ([119,101,98] : List UInt8),.str ([97,46,101,120,97,109,112,108,101] : List UInt8),.str [],.str [],.str ([102,105,108,101,115] : List UInt8),.bool false,.bool true],.int .i64 0]
noncomputable def primSane (g : FuncId) (args : List SV) (b : List Res) : Option (SV × List Res) := match Nat.beq g 23 with
  | true => (match sameC args sA1 with
    | true => some (sR1,b)
    | false => none)
  | false => (match Nat.beq g 67 with
    | true => (match args with
      | [.agg a,.str s] => (match sameC a [.str ([119,101,98] : List UInt8),.str ([97,46,101,120,97,109,112,108,101] : List UInt8)] with
        | true => (match sameB s ([35,102,105,108,101,115] : List UInt8) with
          | true => some (sR2,b)
          | false => none)
        | false => none)
      | _ => none)
    | false => none)
theorem s1_is : didParse ([100,105,100,58,119,101,98,58,97,46,101,120,97,109,112,108,101] : List UInt8) = (⟨([119,101,98] : List UInt8),([97,46,101,120,97,109,112,108,101] : List UInt8)⟩,0) := by kernel_rfl
theorem s2_is : didResolve ⟨([119,101,98] : List UInt8),([97,46,101,120,97,109,112,108,101] : List UInt8)⟩ ([35,102,105,108,101,115] : List UInt8) = (⟨⟨([119,101,98] : List UInt8),([97,46,101,120,97,109,112,108,101] : List UInt8)⟩,[],[],([102,105,108,101,115] : List UInt8),false,true⟩,0) := by kernel_rfl
theorem primSane_ok : ∀ g args b r b',primSane g args b = some (r,b') → SC Tryz.V g args b (fun r' b2 => r' = r ∧ b2 = b') := by
  intro g args b r b' h
  unfold primSane at h
  cases h1 : Nat.beq g 23 with
  | true =>
    rw [h1] at h
    obtain rfl := Nat.eq_of_beq_eq_true h1
    cases h2 : sameC args sA1 with
    | true =>
      rw [h2] at h
      simp only [Option.some.injEq,Prod.mk.injEq] at h
      obtain ⟨rfl,rfl⟩ := h
      rw [sameC_ok h2]
      have := p_did_ParseDID ([100,105,100,58,119,101,98,58,97,46,101,120,97,109,112,108,101] : List UInt8)
      rw [s1_is] at this
      exact this.sc
    | false => rw [h2] at h; cases h
  | false =>
    rw [h1] at h
    cases h3 : Nat.beq g 67 with
    | false => rw [h3] at h; cases h
    | true =>
      rw [h3] at h
      obtain rfl := Nat.eq_of_beq_eq_true h3
      simp only at h
      split at h
      · rename_i a s
        cases h4 : sameC a [.str ([119,101,98] : List UInt8),.str ([97,46,101,120,97,109,112,108,101] : List UInt8)] with
        | false => rw [h4] at h; cases h
        | true =>
          rw [h4] at h
          cases h5 : sameB s ([35,102,105,108,101,115] : List UInt8) with
          | false => rw [h5] at h; cases h
          | true =>
            rw [h5] at h
            simp only [Option.some.injEq,Prod.mk.injEq] at h
            obtain ⟨rfl,rfl⟩ := h
            rw [sameB_eq] at h5
            rw [sameC_ok h4,eq_of_beq h5]
            have := p_did_Resolve ⟨([119,101,98] : List UInt8),([97,46,101,120,97,109,112,108,101] : List UInt8)⟩ ([35,102,105,108,101,115] : List UInt8) ⟨by decide,by decide⟩ (by decide)
            rw [s2_is] at this
            exact this.sc
      · cases h
noncomputable def xpSane : EPar Tryz.V := ⟨ftSane,primSane⟩
def chkT : CallX → Bool
  | .some (.bool true) _ => true
  | .pure (.bool true) => true
  | _ => false
theorem chkT_ok {V : Cx} {g : FuncId} {c : CallX} (h : CallOk V g [] [] c) (hc : chkT c = true) : PC V g [] (.bool true) := by
  unfold chkT at hc
  split at hc
  · exact pc_of_sc rfl rfl (SC.mono h fun r b h => h.1)
  · exact h
  · cases hc
theorem saneRun : chkT (exC Tryz.V xpSane 1000000 7 [] []) = true := by kernel_rfl
theorem p_sane17 : PC Tryz.V 7 [] (.bool true) := chkT_ok (exC_ok (X := xpSane) ftSane_ok primSane_ok _ _ _ _) saneRun
end Go.Proofs.YtejfjmcjicpodaaGreatDoor
/- The law of DiddocEncodes. -/
set_option linter.all false
set_option maxRecDepth 20000
namespace Go.Proofs.YtejfjmcjicpodaaGreatDoor
open Go Vc Go.RowKit Wf
set_option linter.unusedSimpArgs false
set_option maxHeartbeats 8000000 in
theorem sc_keep_Strings {bs : List Res} {x : SV} {L : List Bytes} (hx : Rs bs x L) (hL : L.length ≤ 1100000) (n m : Int) : SC Tryz.V 45 [x,.int .i64 n,.int .i64 m] bs (fun r b => (∃ B,r = .bool B) ∧ Kp bs b) := by
  have hxw := hx.within
  have hxl := hx.len' 9
  have hx1 := hx.one
  refine sc_of 3000 Tryz.func45 rfl Tryz.ntmps45 Tryz.results45 Tryz.call45 (by simp) (fun β β' hb => concL_within bs.length _ (by simp [within,within.withinL,hxw]) β β' hb) ?_
  cases c1 : decide (n < (L.length : Int))
  rotate_left
  · simp only [lawG,↓Xn,↓Xo,↓Xg,↓Xd,↓Xe,↓Xf,Tryz.VΓ,Tryz.Γs,Xp,Xi,Nat.reduceAdd,Nat.reduceSub,Nat.reduceLT,Nat.reduceLeDiff,reduceIte,reduceCtorEq,Nat.reduceEqDiff,implies_true,forall_const,lawV,lawA,beq_self_eq_true,bne_self_eq_false,Int.reduceBEq,Int.reduceBNe,Int.reduceLT,Int.reduceLE,hxl,c1]
    exact ⟨⟨_,rfl⟩,Kp.refl _⟩
  simp only [lawG,↓Xn,↓Xo,↓Xg,↓Xd,↓Xe,↓Xf,Tryz.VΓ,Tryz.Γs,Xp,Xi,Nat.reduceAdd,Nat.reduceSub,Nat.reduceLT,Nat.reduceLeDiff,reduceIte,reduceCtorEq,Nat.reduceEqDiff,implies_true,forall_const,lawV,lawA,beq_self_eq_true,bne_self_eq_false,Int.reduceBEq,Int.reduceBNe,Int.reduceLT,Int.reduceLE,hxl,c1]
  refine loopV_mk (fun σ => ∃ k : Nat,k ≤ L.length ∧ lk 2 σ.t = some (.int .i64 m) ∧ lk 13 σ.t = some x ∧ lk 14 σ.t = some (.int .i64 L.length) ∧ lk 15 σ.t = some (.int .i64 k) ∧ Kp bs σ.b) (fun σ => L.length - lkI 15 σ) ⟨0,by omega,rfl,rfl,rfl,rfl,Kp.refl _⟩ ?_
  rintro ⟨t,b⟩ ⟨k,hk,h2,h13,h14,h15,hkk⟩
  simp only at h2 h13 h14 h15 hkk
  rw [lkI_eq h15]
  by_cases hlt : k < L.length
  rotate_left
  · have hlt2 : decide ((k : Int) < L.length) = false := decide_eq_false (by omega)
    simp only [lawG,↓Xn,↓Xo,↓Xg,↓Xd,↓Xe,↓Xf,Tryz.VΓ,Tryz.Γs,Xp,Xi,Nat.reduceAdd,Nat.reduceSub,Nat.reduceLT,Nat.reduceLeDiff,reduceIte,reduceCtorEq,Nat.reduceEqDiff,implies_true,forall_const,lawV,lawA,beq_self_eq_true,bne_self_eq_false,Int.reduceBEq,Int.reduceBNe,Int.reduceLT,Int.reduceLE,h2,h13,h14,h15,hlt2]
    exact ⟨⟨_,rfl⟩,hkk⟩
  have hlt2 : decide ((k : Int) < L.length) = true := decide_eq_true (by omega)
  rcases hx with ⟨-,hx0⟩ | ⟨i,rfl,hi⟩
  · rw [hx0] at hlt; simp at hlt
  have hbi := hkk.at hi
  have hkt : (L.map SV.str)[k * 1]? = some (.str L[k]) := by simp [hlt]
  cases c2 : decide (m < (L[k].length : Int))
  rotate_left
  · simp only [lawG,↓Xn,↓Xo,↓Xg,↓Xd,↓Xe,↓Xf,Tryz.VΓ,Tryz.Γs,Xp,Xi,Nat.reduceAdd,Nat.reduceSub,Nat.reduceLT,Nat.reduceLeDiff,reduceIte,reduceCtorEq,Nat.reduceEqDiff,implies_true,forall_const,lawV,lawA,beq_self_eq_true,bne_self_eq_false,Int.reduceBEq,Int.reduceBNe,Int.reduceLT,Int.reduceLE,h2,h13,h14,h15,hlt2,hbi,hkt,c2]
    exact ⟨⟨by omega,by omega⟩,by simp; omega,⟨_,rfl⟩,hkk⟩
  · simp only [lawG,↓Xn,↓Xo,↓Xg,↓Xd,↓Xe,↓Xf,Tryz.VΓ,Tryz.Γs,Xp,Xi,Nat.reduceAdd,Nat.reduceSub,Nat.reduceLT,Nat.reduceLeDiff,reduceIte,reduceCtorEq,Nat.reduceEqDiff,implies_true,forall_const,lawV,lawA,beq_self_eq_true,bne_self_eq_false,Int.reduceBEq,Int.reduceBNe,Int.reduceLT,Int.reduceLE,h2,h13,h14,h15,hlt2,hbi,hkt,c2]
    refine ⟨⟨by omega,by omega⟩,by simp; omega,⟨by omega,by omega⟩,⟨k + 1,by omega,rfl,hkk⟩,?_⟩
    rw [lkI_eq (show lk 15 _ = some (.int .i64 ((k + 1 : Nat) : Int)) from rfl)]; omega
set_option maxHeartbeats 8000000 in
theorem sc_law17_kept {bs : List Res} {dc : List SV} {D : Docm} (hD : DocR bs dc D) (hB : DocB D) : SC Tryz.V 16 [.agg dc] bs (fun r b => (∃ B,r = .bool B) ∧ Kp bs b) := by
  obtain ⟨xa,xc,xm,xs,Q,rfl,d1,d2,d3,d4,d5,d6⟩ := hD
  have hone := DocR.onesB d1 d2 d3 d4
  have w1 := d1.within
  have w2 := d2.within
  have w3 : Vc.within bs.length xm = true := by
    rcases d3 with ⟨rfl,-⟩ | ⟨j,rfl,h2⟩
    · rfl
    · have := (List.getElem?_eq_some_iff.1 h2).1
      simp [Vc.within,this]
  have w4 : Vc.within bs.length xs = true := by
    rcases d4 with ⟨rfl,-⟩ | ⟨j,rfl,h2⟩
    · rfl
    · have := (List.getElem?_eq_some_iff.1 h2).1
      simp [Vc.within,this]
  have c1 := d1.one
  have c2 := d2.one
  have c3 := d3.one
  have c4 := d4.one
  have n3 := rm_len d3
  have n4 := rq_len d4
  have hb0 := app_at0 bs [.cells [.str D.id,xa,xc,xm,xs] 34 true]
  have hro := (Ro.refl bs).app [.cells [.str D.id,xa,xc,xm,xs] 34 true]
  have hkp := (Kp.refl bs).app [.cells [.str D.id,xa,xc,xm,xs] 34 true]
  refine sc_of 3000 Tryz.func16 rfl Tryz.ntmps16 Tryz.results16 Tryz.call16 (by simp) (fun β β' hb => concL_within bs.length _ (by simp [within,within.withinL,w1,w2,w3,w4]) β β' hb) ?_
  cases e1 : decide ((D.id.length : Int) ≤ 300)
  · simp only [lawG,↓Xn,↓Xo,↓Xg,↓Xd,↓Xe,↓Xf,Tryz.VΓ,Tryz.Γs,Xp,Xi,Nat.reduceAdd,Nat.reduceSub,Nat.reduceLT,Nat.reduceLeDiff,reduceIte,reduceCtorEq,Nat.reduceEqDiff,implies_true,forall_const,lawV,lawA,beq_self_eq_true,bne_self_eq_false,Int.reduceBEq,Int.reduceBNe,Int.reduceLT,Int.reduceLE,hone,e1]
    exact ⟨⟨_,rfl⟩,(Kp.refl bs).app _⟩
  simp only [lawG,↓Xn,↓Xo,↓Xg,↓Xd,↓Xe,↓Xf,Tryz.VΓ,Tryz.Γs,Xp,Xi,Nat.reduceAdd,Nat.reduceSub,Nat.reduceLT,Nat.reduceLeDiff,reduceIte,reduceCtorEq,Nat.reduceEqDiff,implies_true,forall_const,lawV,lawA,beq_self_eq_true,bne_self_eq_false,Int.reduceBEq,Int.reduceBNe,Int.reduceLT,Int.reduceLE,hone,e1,c1,c2,c3,c4]
  refine callV_sc (sc_keep_Strings (d1.ro hro) hB.also.1 70 300) ?_
  rintro r b2 ⟨⟨B,rfl⟩,hk2⟩
  have hb2 : b2[bs.length]? = some (.cells [.str D.id,xa,xc,xm,xs] 34 true) := hk2.at hb0
  cases B
  · simp only [lawG,↓Xn,↓Xo,↓Xg,↓Xd,↓Xe,↓Xf,Tryz.VΓ,Tryz.Γs,Xp,Xi,Nat.reduceAdd,Nat.reduceSub,Nat.reduceLT,Nat.reduceLeDiff,reduceIte,reduceCtorEq,Nat.reduceEqDiff,implies_true,forall_const,lawV,lawA,beq_self_eq_true,bne_self_eq_false,Int.reduceBEq,Int.reduceBNe,Int.reduceLT,Int.reduceLE,hb2]
    exact ⟨⟨_,rfl⟩,hkp.trans hk2⟩
  simp only [lawG,↓Xn,↓Xo,↓Xg,↓Xd,↓Xe,↓Xf,Tryz.VΓ,Tryz.Γs,Xp,Xi,Nat.reduceAdd,Nat.reduceSub,Nat.reduceLT,Nat.reduceLeDiff,reduceIte,reduceCtorEq,Nat.reduceEqDiff,implies_true,forall_const,lawV,lawA,beq_self_eq_true,bne_self_eq_false,Int.reduceBEq,Int.reduceBNe,Int.reduceLT,Int.reduceLE,hb2,c1,c2,c3,c4]
  refine callV_sc (sc_keep_Strings ((d2.ro hro).ro hk2.ro) hB.ctrl.1 70 300) ?_
  rintro r b3 ⟨⟨B,rfl⟩,hk3⟩
  have hb3 : b3[bs.length]? = some (.cells [.str D.id,xa,xc,xm,xs] 34 true) := hk3.at hb2
  cases B
  · simp only [lawG,↓Xn,↓Xo,↓Xg,↓Xd,↓Xe,↓Xf,Tryz.VΓ,Tryz.Γs,Xp,Xi,Nat.reduceAdd,Nat.reduceSub,Nat.reduceLT,Nat.reduceLeDiff,reduceIte,reduceCtorEq,Nat.reduceEqDiff,implies_true,forall_const,lawV,lawA,beq_self_eq_true,bne_self_eq_false,Int.reduceBEq,Int.reduceBNe,Int.reduceLT,Int.reduceLE,hb3]
    exact ⟨⟨_,rfl⟩,(hkp.trans hk2).trans hk3⟩
  cases e2 : decide ((D.methods.length : Int) ≤ 70)
  · simp only [lawG,↓Xn,↓Xo,↓Xg,↓Xd,↓Xe,↓Xf,Tryz.VΓ,Tryz.Γs,Xp,Xi,Nat.reduceAdd,Nat.reduceSub,Nat.reduceLT,Nat.reduceLeDiff,reduceIte,reduceCtorEq,Nat.reduceEqDiff,implies_true,forall_const,lawV,lawA,beq_self_eq_true,bne_self_eq_false,Int.reduceBEq,Int.reduceBNe,Int.reduceLT,Int.reduceLE,hb3,c3,c4,n3,n4,e2]
    exact ⟨⟨_,rfl⟩,(hkp.trans hk2).trans hk3⟩
  · simp only [lawG,↓Xn,↓Xo,↓Xg,↓Xd,↓Xe,↓Xf,Tryz.VΓ,Tryz.Γs,Xp,Xi,Nat.reduceAdd,Nat.reduceSub,Nat.reduceLT,Nat.reduceLeDiff,reduceIte,reduceCtorEq,Nat.reduceEqDiff,implies_true,forall_const,lawV,lawA,beq_self_eq_true,bne_self_eq_false,Int.reduceBEq,Int.reduceBNe,Int.reduceLT,Int.reduceLE,hb3,c3,c4,n3,n4,e2]
    exact ⟨⟨_,rfl⟩,(hkp.trans hk2).trans hk3⟩
def encT3 : OT := (.one 0 (.one 1 (.one 2 (.pur 3 (.alt (.one 4 (.alt (.one 5 (.one 6 (.one 7 (.one 8 (.one 9 (.pur 10 .leaf)))))) (.one 6 (.one 5 (.one 7 (.one 8 (.one 9 (.pur 10 .leaf)))))))) (.one 6 (.one 4 (.one 5 (.one 7 (.one 8 (.one 9 (.pur 10 .leaf)))))))))))) 
set_option maxHeartbeats 8000000 in
theorem sc_law17_DiddocEncodes {bs : List Res} {dc : List SV} {D : Docm} (hD : DocR bs dc D) (hB : DocB D) : SC Tryz.V 5 [.agg dc] bs (fun r _ => r = .bool true) := by
  have p0 := p_sane17
  have hD0 := hD
  obtain ⟨xa,xc,xm,xs,Q,rfl,d1,d2,d3,d4,d5,d6⟩ := hD
  have hone := DocR.onesB d1 d2 d3 d4
  have w1 := d1.within
  have w2 := d2.within
  have w3 : Vc.within bs.length xm = true := by
    rcases d3 with ⟨rfl,-⟩ | ⟨j,rfl,h2⟩
    · rfl
    · have := (List.getElem?_eq_some_iff.1 h2).1
      simp [Vc.within,this]
  have w4 : Vc.within bs.length xs = true := by
    rcases d4 with ⟨rfl,-⟩ | ⟨j,rfl,h2⟩
    · rfl
    · have := (List.getElem?_eq_some_iff.1 h2).1
      simp [Vc.within,this]
  refine sc_ofP (fun n => if n = 3 then .all encT3 else .ord []) 3000 Tryz.func5 rfl Tryz.ntmps5 Tryz.results5 Tryz.call5 (by simp) (fun β β' hb => concL_within bs.length _ (by simp [within,within.withinL,w1,w2,w3,w4]) β β' hb) ?_
  refine vcS_cutS 2900 (fun σ => lk 1 σ.t = some (.p bs.length 0) ∧ σ.b = bs ++ [.cells [.str D.id,xa,xc,xm,xs] 34 true]) ?_ (fun k' hk' => ?_)
  rotate_left
  · simp only [lawG,↓Xn,↓Xo,↓Xg,↓Xd,↓Xe,↓Xf,Tryz.VΓ,Tryz.Γs,Xp,Xi,Nat.reduceAdd,Nat.reduceSub,Nat.reduceLT,Nat.reduceLeDiff,reduceIte,reduceCtorEq,Nat.reduceEqDiff,implies_true,forall_const,lawV,lawA,beq_self_eq_true,bne_self_eq_false,Int.reduceBEq,Int.reduceBNe,Int.reduceLT,Int.reduceLE,hone]
    exact hk' _ _ ⟨rfl,rfl⟩
  rintro m ⟨t,b⟩ ⟨h1,rfl⟩
  simp only at h1
  refine vcS_cutS 2800 (fun σ => lk 1 σ.t = some (.p bs.length 0) ∧ σ.b = bs ++ [.cells [.str D.id,xa,xc,xm,xs] 34 true]) ?_ (fun k' hk' => ?_)
  rotate_left
  · simp only [lawG,↓Xn,↓Xo,↓Xg,↓Xd,↓Xe,↓Xf,Tryz.VΓ,Tryz.Γs,Xp,Xi,Nat.reduceAdd,Nat.reduceSub,Nat.reduceLT,Nat.reduceLeDiff,reduceIte,reduceCtorEq,Nat.reduceEqDiff,implies_true,forall_const,lawV,lawA,beq_self_eq_true,bne_self_eq_false,Int.reduceBEq,Int.reduceBNe,Int.reduceLT,Int.reduceLE]
    (refine callV_pc (p0) ?_; simp only [lawG,↓Xn,↓Xo,↓Xg,↓Xd,↓Xe,↓Xf,Tryz.VΓ,Tryz.Γs,Xp,Xi,Nat.reduceAdd,Nat.reduceSub,Nat.reduceLT,Nat.reduceLeDiff,reduceIte,reduceCtorEq,Nat.reduceEqDiff,implies_true,forall_const,lawV,lawA,beq_self_eq_true,bne_self_eq_false,Int.reduceBEq,Int.reduceBNe,Int.reduceLT,Int.reduceLE,Bool.not_true])
    refine hk' _ _ ?_
    exact ⟨h1,rfl⟩
  clear h1
  rintro m ⟨t,b⟩ ⟨h1,rfl⟩
  simp only at h1
  have hD1 := docR_ro ((Ro.refl bs).app [.cells [.str D.id,xa,xc,xm,xs] 34 true]) hD0
  have hb0 := app_at0 bs [.cells [.str D.id,xa,xc,xm,xs] 34 true]
  generalize bs ++ [.cells [.str D.id,xa,xc,xm,xs] 34 true] = b0 at hD1 hb0 ⊢
  have hb0 : b0[bs.length]? = some (.cells [.str D.id,xa,xc,xm,xs] 34 true) := hb0
  simp only [lawG,↓Xn,↓Xo,↓Xg,↓Xd,↓Xe,↓Xf,Tryz.VΓ,Tryz.Γs,Xp,Xi,Nat.reduceAdd,Nat.reduceSub,Nat.reduceLT,Nat.reduceLeDiff,reduceIte,reduceCtorEq,Nat.reduceEqDiff,implies_true,forall_const,lawV,lawA,beq_self_eq_true,bne_self_eq_false,Int.reduceBEq,Int.reduceBNe,Int.reduceLT,Int.reduceLE]
  refine regV_mkG (fun σ => lk 2 σ.t = some (.bool true)) (by kernel_rfl) ?_ ?_
  · intro E' k'
    simp only [lawG,↓Xn,↓Xo,↓Xg,↓Xd,↓Xe,↓Xf,Tryz.VΓ,Tryz.Γs,Xp,Xi,Nat.reduceAdd,Nat.reduceSub,Nat.reduceLT,Nat.reduceLeDiff,reduceIte,reduceCtorEq,Nat.reduceEqDiff,implies_true,forall_const,lawV,lawA,beq_self_eq_true,bne_self_eq_false,Int.reduceBEq,Int.reduceBNe,Int.reduceLT,Int.reduceLE,encT3,h1,hb0,hone]
    refine callV_sc (sc_law17_kept hD1 hB) ?_
    rintro r b1 ⟨⟨B,rfl⟩,hk1⟩
    have hb1 := hk1.at hb0
    have hD2 := docR_ro hk1.ro hD1
    cases B
    · simp only [lawG,↓Xn,↓Xo,↓Xg,↓Xd,↓Xe,↓Xf,Tryz.VΓ,Tryz.Γs,Xp,Xi,Nat.reduceAdd,Nat.reduceSub,Nat.reduceLT,Nat.reduceLeDiff,reduceIte,reduceCtorEq,Nat.reduceEqDiff,implies_true,forall_const,lawV,lawA,beq_self_eq_true,bne_self_eq_false,Int.reduceBEq,Int.reduceBNe,Int.reduceLT,Int.reduceLE,h1,hb1,hone,Bool.not_false,and_self]
    · simp only [lawG,↓Xn,↓Xo,↓Xg,↓Xd,↓Xe,↓Xf,Tryz.VΓ,Tryz.Γs,Xp,Xi,Nat.reduceAdd,Nat.reduceSub,Nat.reduceLT,Nat.reduceLeDiff,reduceIte,reduceCtorEq,Nat.reduceEqDiff,implies_true,forall_const,lawV,lawA,beq_self_eq_true,bne_self_eq_false,Int.reduceBEq,Int.reduceBNe,Int.reduceLT,Int.reduceLE,h1,hb1,hone,Bool.not_true]
      repeat' first | refine And.intro ?_ ?_ | skip
      all_goals
        refine callV_sc (sc_dd_Encode hD2 hB) ?_
        rintro r b2 ⟨v,rfl,hk2,hj⟩
        have hb2 := hk2.at hb1
        have hD3 := docR_ro hk2.ro hD2
        simp only [lawG,↓Xn,↓Xo,↓Xg,↓Xd,↓Xe,↓Xf,Tryz.VΓ,Tryz.Γs,Xp,Xi,Nat.reduceAdd,Nat.reduceSub,Nat.reduceLT,Nat.reduceLeDiff,reduceIte,reduceCtorEq,Nat.reduceEqDiff,implies_true,forall_const,lawV,lawA,beq_self_eq_true,bne_self_eq_false,Int.reduceBEq,Int.reduceBNe,Int.reduceLT,Int.reduceLE,h1,hb2,hone]
        refine callV_sc (sc_rr_Encode hD3 hB) ?_
        rintro r b3 ⟨v',rfl,hk3,hj'⟩
        simp only [lawG,↓Xn,↓Xo,↓Xg,↓Xd,↓Xe,↓Xf,Tryz.VΓ,Tryz.Γs,Xp,Xi,Nat.reduceAdd,Nat.reduceSub,Nat.reduceLT,Nat.reduceLeDiff,reduceIte,reduceCtorEq,Nat.reduceEqDiff,implies_true,forall_const,lawV,lawA,beq_self_eq_true,bne_self_eq_false,Int.reduceBEq,Int.reduceBNe,Int.reduceLT,Int.reduceLE]
        refine callV_sc (sc_r14_Same (hj.ro hk3.ro) hj') ?_
        rintro r b4 ⟨rfl,rfl⟩
        simp only [lawG,↓Xn,↓Xo,↓Xg,↓Xd,↓Xe,↓Xf,Tryz.VΓ,Tryz.Γs,Xp,Xi,Nat.reduceAdd,Nat.reduceSub,Nat.reduceLT,Nat.reduceLeDiff,reduceIte,reduceCtorEq,Nat.reduceEqDiff,implies_true,forall_const,lawV,lawA,beq_self_eq_true,bne_self_eq_false,Int.reduceBEq,Int.reduceBNe,Int.reduceLT,Int.reduceLE]
  · rintro ⟨t,b⟩ h2
    simp only at h2
    simp only [lawG,↓Xn,↓Xo,↓Xg,↓Xd,↓Xe,↓Xf,Tryz.VΓ,Tryz.Γs,Xp,Xi,Nat.reduceAdd,Nat.reduceSub,Nat.reduceLT,Nat.reduceLeDiff,reduceIte,reduceCtorEq,Nat.reduceEqDiff,implies_true,forall_const,lawV,lawA,beq_self_eq_true,bne_self_eq_false,Int.reduceBEq,Int.reduceBNe,Int.reduceLT,Int.reduceLE,h2]
end Go.Proofs.YtejfjmcjicpodaaGreatDoor
