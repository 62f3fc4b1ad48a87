/- Texts of this claim,laid together: Frame,Laid,ProgF,VcB,SlRows,OpenT,IdxAny,Ascii,Bytes,Ascii2,Lib,Comm,TreeP,Pick,TreeA,Tj,PickP,TjG,PlainQ,AcctP,DidP,DocP,DidQ,DidR,Pct,Uri,UriW,UriW2,RefUri,RefUri2,RefPct,RefPct2,PctD,MailP,Number,Host,Host2,Own,RefHost,RefHost2,HostPC,RefSplit,MailW,UrlW,DidW,DocA,DocB,DocC,DocD,One,Px1,RfH,Px2,Px3,Px4,Px5,PjA,OpenV,DocS,SelA,SelB,RefUri3,MailV,MailR,DidV,DocE,DocG,DocH,DocI,SelC,EncA,EncB,EncC,EncP,PjB,PjC,EncD. -/
import Derived.Test.YtejfjmcjicpodaaGreatDoorRows
import Derived.WalkKit
import Derived.ProofKit
import Derived.OpenShut
import Derived.Shelf.Vars
import Derived.ShutString
import Derived.WideKeyArgs
import Derived.ChangeSame
import Derived.Deep.DeepHandedRow
import Derived.Deep.DeepLaidRun
import Derived.Lib.LaidTab
import Derived.Lib.SmallJoins
import Derived.SizedLaws
import Derived.Test.YtejfjmcjicpodaaGreatDoorCards
import Derived.Test.YtejfjmcjicpodaaGreatDoorTie
import Derived.Deep.Slices
import Derived.Lib.OthersKept
import Derived.Deep.QuietTactic
import Derived.BigQuiet
import Derived.Test.YtejfjmcjicpodaaGreatDoorProg
import Derived.Lib.ConvBytes
import Derived.Laws.IdiomStrings
import Derived.Lib.Replace
import Derived.Lib.QuietBelow
import Derived.Lib.FrozenHead
import Derived.Test.YtejfjmcjicpodaaGreatDoorE2
/- The frame of the statements: from the law's contract to the given row. -/
set_option linter.all false
namespace Go.Proofs.YtejfjmcjicpodaaGreatDoor
open Go Vc Go.RowKit Wf
open Go.ChangeShapes Go.WideShapes Go.ChangeAt
open Go.WideMaps Go.WideElems
open Go.ChangeMaps (setBlock shut_map_nil open_string shut_string keptBut_setBlock frozen?_setBlock heap_setBlock_same)
theorem env_of {W : World} (h : W.ShapedOpen Tryz.prog) : Env W :=
  Go.Proofs.cell_of_shapedOpen_int (zero := #[.int .i64 0]) (t := 3) h (of_decide_eq_true (by kernel_rfl)) (by kernel_rfl) rfl (by kernel_rfl) (by kernel_rfl) Tryz.underlying3
theorem own : ownKnob Tryz.prog.godebug = none := by kernel_rfl
theorem laidOut : laidOutB Tryz.prog = true := by kernel_rfl
section
variable {H : Type} {enc : TypeId × Value → H} {W W' : World}
theorem trodAll_stays {P : Program} (hl : laidOutB P = true) {B : Nat} : ∀ {ts : List TypeId} {vs : List Value} {ds : List (DataW H)} {ps : List MemPlace},ts.all (fun t => P.readableRec t && decide (t < P.types.size)) = true →
    DataW.TrodAll enc P W 0 (fun _ => true) true ts vs ds ps → (∀ p ∈ ps,W.sameAt W' p) → (∀ p ∈ ps,p.block < B) → DataW.TrodAll enc P W' 0 (fun b => decide (b < B)) true ts vs ds ps
  | [],[],[],ps,_,h,_,_ => h
  | t :: ts,v :: vs,d :: ds,ps,hr,h,hs,hb => by
    obtain ⟨p,q,h1,h2,rfl⟩ := h
    simp only [List.all_cons,Bool.and_eq_true,decide_eq_true_eq] at hr
    exact ⟨p,q,Trod_stays hl hr.1.1 hr.1.2 h1 (fun x hx => hs x (List.mem_append_left _ hx)) (fun x hx => by simpa using hb x (List.mem_append_left _ hx)),trodAll_stays hl hr.2 h2 (fun x hx => hs x (List.mem_append_right _ hx)) (fun x hx => hb x (List.mem_append_right _ hx)),rfl⟩
  | [],_ :: _,_,_,_,h,_,_ => by cases h
  | [],[],_ :: _,_,_,h,_,_ => by cases h
  | _ :: _,[],_,_,_,h,_,_ => by cases h
  | _ :: _,_ :: _,[],_,_,h,_,_ => by cases h
theorem law_post {P : Program} {fn : Func} {s : ChangeSpec} {args : Array Value} {ds gs : List (DataW H)} {before : List MemPlace} {tb : TypeId} (hl : laidOutB P = true)
    (hpar : fn.params.toList.all (fun t => P.readableRec t && decide (t < P.types.size)) = true) (hv : s.vars = []) (hr : fn.resultTypes = #[tb]) (htb : P.underlying tb = some .bool)
    (hgs : gs = []) (hres : (s.fn H ds).results = [.lit (.bool true)]) (hargs : (s.fn H ds).args = ds) (hvs : (s.fn H ds).vars = [])
    (hW : DataW.Whole enc P fn.params.toList s.vars false W args.toList ds gs before) (bel : Below W.heap.size W W') : s.post enc P fn false true false false W args (.bool true) W' := by
  have hlt := hW.lt
  have hW' := hW
  obtain ⟨p,q,hA,hV,hb,-,-⟩ := hW
  subst hgs
  rw [hv] at hV
  obtain ⟨-,rfl⟩ := trodVars_none hV
  subst hb
  refine ⟨ds,[],_,[],p,[],hW',?_,?_,?_,bel.frame _,fun h => by cases h⟩
  · rw [List.append_nil,hres,hr]
    exact trodAll_mk1 (shut_bool htb _)
  · rw [List.append_nil,hargs]
    exact trodAll_stays hl hpar hA (fun x hx => bel.same (hlt x (List.mem_append_left _ hx))) (fun x hx => hlt x (List.mem_append_left _ hx))
  · rw [List.append_nil,hvs,hv]
    rfl
end
end Go.Proofs.YtejfjmcjicpodaaGreatDoor
/- The frame of the cards: a world with Go's tables. -/
set_option linter.all false
namespace Go.Proofs.YtejfjmcjicpodaaGreatDoor
def flatD : Nat → DataW Unit → List Value
  | _,.lit (.int k i) => [.int k i]
  | n + 1,.agg ps => ps.flatMap (flatD n)
  | _,_ => []
def setCells (d : DataW Unit) : Obj → Obj
  | .cells _ t fr => .cells (flatD 8 d).toArray t fr
  | o => o
noncomputable def laidWorld (os : Os) : World :=
  { World.holding Tryz.prog os ⟨#[],#[],[]⟩ with heap := ((World.holding Tryz.prog os ⟨#[],#[],[]⟩).heap.modify 1 (setCells Go.Pinned.utf8First)).modify 2 (setCells Rows.laid_unicode_utf8_acceptRanges) }
set_option maxRecDepth 100000 in
theorem laid_met (os : Os) (args : Array Value) : laidMet Tryz.prog [("unicode/utf8.acceptRanges", Rows.laid_unicode_utf8_acceptRanges), ("unicode/utf8.first", Rows.laid_unicode_utf8_first)] ((laidWorld os).forCall (fun _ _ => 0) ⟨#[], args, []⟩).memory :=
  laidMet_of_run3 8 (by kernel_rfl) (by kernel_rfl) (by kernel_rfl)
open Go in
theorem pf_looks : false = Tryz.pinned.checked.prog.looks [] := by kernel_rfl
end Go.Proofs.YtejfjmcjicpodaaGreatDoor
/- Facts about the whole program that every row asks for. -/
set_option linter.all false
namespace Go.Proofs.YtejfjmcjicpodaaGreatDoor
open Go Go.RowKit
set_option maxRecDepth 100000
theorem pf_maps : mapsRowed Tryz.pinned.checked.prog = true := by kernel_rfl
theorem pf_stops : (Tryz.pinned.checked.prog.stops == []) = true := by kernel_rfl
theorem pf_knobs : (Tryz.pinned.checked.prog.stopKnobs == []) = true := by kernel_rfl
theorem pf_keys : (Rows.diddocDecodesRow.plainKeys == Tryz.pinned.checked.prog.plainKeys) = true := by kernel_rfl
theorem pf_heard : Tryz.pinned.checked.prog.stopsHeard = true := by kernel_rfl
theorem pf_may : Tryz.pinned.checked.prog.mayEnter = true := by kernel_rfl
theorem pf_lifts : (Rows.diddocDecodesRow.lifted == Tryz.pinned.checked.prog.liftsFinal) = true := by kernel_rfl
theorem pf_make : (Tryz.pinned.checked.prog.make == some Rows.diddocDecodesRow.make) = true := by kernel_rfl
theorem and4 {a b c d : Bool} (h : (a && b && c && d) = true) : (a = true ∧ b = true) ∧ c = true ∧ d = true := by
  simp only [Bool.and_eq_true] at h
  exact ⟨⟨h.1.1.1,h.1.1.2⟩,h.1.2,h.2⟩
end Go.Proofs.YtejfjmcjicpodaaGreatDoor
/- A calculus of conditions: a strings.Builder is one thing of the state. -/
set_option linter.all false
namespace Vc
open Go Go.RowKit Wf
theorem FrW.mono {own own' : Nat → Prop} {w w' : World} (h : FrW own w w') (k : ∀ b,own b → own' b) : FrW own' w w' :=
  ⟨h.os,h.tape,h.output,h.size,fun b hb hn => h.block b hb (fun e => hn (k b e))⟩
theorem res_agr {b1 b2 : Nat → Bt} {t t' : Bt} {fq fq' : Nat → Prop} {w w' : World} {r : Res} (h1 : Holds b1 t fq w r) (h2 : Holds b2 t fq w r) (h : Holds b1 t' fq' w' r) : Holds b2 t' fq' w' r := by
  cases r with
  | cells c T m =>
    obtain ⟨-,⟨r1,f1,d1,rfl⟩,-⟩ := h1
    obtain ⟨-,⟨r2,f2,d2,rfl⟩,-⟩ := h2
    have e := lies_agr (by simp) d1.lies d2.lies
    simp only [Holds] at h ⊢
    rw [← e]; exact h
  | own c e s n m =>
    rcases h1 with ⟨-,-,rfl,-⟩ | ⟨-,-,-,-,l1,-⟩
    · simpa [Holds] using h
    · rcases h2 with ⟨-,-,rfl,-⟩ | ⟨-,-,-,-,l2,-⟩
      · simpa [Holds] using h
      · have e := lies_agr (by simp) l1 l2
        simp only [Holds] at h ⊢
        rw [← e]; exact h
  | ext R => exact h
  | gone => exact h
variable {V : Cx} {f : FuncId} {args : List SV} {bs : List Res} {R : SV → List Res → Prop}
theorem sc_weak {i : Nat} {r0 r1 : Res} (hi : bs[i]? = some r0) (hm : r1.mine = true → r0.mine = true) (hv : ∀ (β : Nat → Bt) (fp : Nat → Nat → Prop) (w : World),Holds β (β i) (fp i) w r0 → Holds β (β i) (fp i) w r1) (h : SC V f args (bs.set i r1) R) : SC V f args bs R := by
  refine ⟨h.1,fun β fp w hbx hG hE => ?_⟩
  have hil : i < bs.length := (List.getElem?_eq_some_iff.1 hi).1
  have old : ∀ {j r'},(bs.set i r1)[j]? = some r' → ∃ r,bs[j]? = some r ∧ (r'.mine = true → r.mine = true) ∧ (j ≠ i ∧ r' = r ∨ j = i ∧ r' = r1) := fun {j r'} hj => by
    by_cases hji : j = i
    · subst hji
      rw [List.getElem?_set_self hil] at hj
      obtain rfl := Option.some.inj hj
      exact ⟨r0,hi,hm,.inr ⟨rfl,rfl⟩⟩
    · rw [List.getElem?_set_ne (fun e => hji e.symm)] at hj
      exact ⟨r',hj,id,.inl ⟨hji,rfl⟩⟩
  refine (h.2 β fp w (fun β' hβ => ?_) (fun j r hj hjm k hk => ?_) hE).mono ?_
  · rw [List.length_set] at hβ
    have hb := hbx β' hβ
    refine ⟨fun j r' hj => ?_,fun j r' hj k hk => ?_,fun j l a b hj hl hne hmm => ?_⟩
    · obtain ⟨r,hr,-,⟨-,rfl⟩ | ⟨rfl,rfl⟩⟩ := old hj
      · exact hb.holds j _ hr
      · exact hv β' fp w (hb.holds _ _ hi)
    · obtain ⟨r,hr,-⟩ := old hj
      exact hb.lt j r hr k hk
    · obtain ⟨r,hr,e,-⟩ := old hj
      obtain ⟨r',hr',e',-⟩ := old hl
      exact hb.sep j l r r' hr hr' hne (hmm.imp e e')
  · obtain ⟨r,hr,e,-⟩ := old hj
    exact hG j r hr (e hjm) k hk
  · rintro e w' ⟨r,bs',β₂,fp₂,hR,hag,hlen,hall,hfr,hmine,hfoot⟩
    rw [List.length_set] at hag hlen
    refine ⟨r,bs',β₂,fp₂,hR,hag,hlen,hall,hfr.mono ?_,fun j r' hj hjm k hk => ?_,fun j r' hj k hk => ?_⟩
    · rintro k ⟨j,r',hj,hjm,hk⟩
      obtain ⟨r,hr,e,-⟩ := old hj
      exact ⟨j,r,hr,e hjm,hk⟩
    · rcases hmine j r' hj hjm k hk with h1 | ⟨j2,r2,hj2,hm2,hk2⟩
      · exact .inl h1
      · obtain ⟨r,hr,e,-⟩ := old hj2
        exact .inr ⟨j2,r,hr,e hm2,hk2⟩
    · rcases hfoot j r' hj k hk with h1 | ⟨j2,r2,hj2,hk2⟩
      · exact .inl h1
      · obtain ⟨r,hr,-⟩ := old hj2
        exact .inr ⟨j2,r,hr,hk2⟩
theorem sc_dull {i : Nat} {c : List SV} {e s n : Nat} {m : Bool} (hi : bs[i]? = some (.own c e s n m)) (h : SC V f args (bs.set i (.own c e s n false)) R) : SC V f args bs R := by
  refine sc_weak hi (fun e => by cases e) (fun β fp w hh => ?_) h
  rcases hh with h0 | ⟨h1,h2,h3,h4,h5,-,h7⟩
  · exact .inl ⟨h0.1,h0.2.1,h0.2.2.1,h0.2.2.2.1,fun e => by cases e⟩
  · exact .inr ⟨h1,h2,h3,h4,h5,(by simp),h7⟩
def Dim (b b2 : List Res) : Prop := b2.length = b.length ∧ ∀ (i : Nat) (r : Res),b2[i]? = some r → b[i]? = some r ∨ ∃ (c : List SV) (e s n : Nat) (m : Bool),b[i]? = some (Res.own c e s n m) ∧ r = Res.own c e s n false
theorem Dim.refl (b : List Res) : Dim b b := ⟨rfl,fun _ _ h => .inl h⟩
theorem Dim.one {b : List Res} {i : Nat} {c : List SV} {e s n : Nat} {m : Bool} (hi : b[i]? = some (.own c e s n m)) : Dim b (b.set i (.own c e s n false)) := ⟨by simp,fun j r hj => by
  by_cases hji : j = i
  · subst hji
    rw [List.getElem?_set_self (List.getElem?_eq_some_iff.1 hi).1] at hj
    exact .inr ⟨c,e,s,n,m,hi,(Option.some.inj hj).symm⟩
  · rw [List.getElem?_set_ne (fun e => hji e.symm)] at hj
    exact .inl hj⟩
theorem Dim.trans {a b c : List Res} (h : Dim a b) (k : Dim b c) : Dim a c := ⟨k.1.trans h.1,fun i r hi => by
  rcases k.2 i r hi with h1 | ⟨c,e,s,n,m,h1,rfl⟩
  · exact h.2 i r h1
  · rcases h.2 i _ h1 with h2 | ⟨c',e',s',n',m',h2,h3⟩
    · exact .inr ⟨c,e,s,n,m,h2,rfl⟩
    · cases h3
      exact .inr ⟨_,_,_,_,m',h2,rfl⟩⟩
theorem SC.dim (h : SC V f args bs (fun r b => ∃ b2 : List Res,Dim b b2 ∧ R r b2)) : SC V f args bs R := by
  refine ⟨h.1,fun β fp w hbx hG hE => (h.2 β fp w hbx hG hE).mono ?_⟩
  rintro e w' ⟨r,bs',β₂,fp₂,⟨b2,hd,hR⟩,hag,hlen,hall,hfr,hmine,hfoot⟩
  have old : ∀ {j r'},b2[j]? = some r' → ∃ r,bs'[j]? = some r ∧ (r'.mine = true → r.mine = true) ∧ ∀ {β t f w},Holds β t f w r → Holds β t f w r' := fun {j r'} hj => by
    rcases hd.2 j r' hj with h1 | ⟨c,e,s,n,m,h1,rfl⟩
    · exact ⟨r',h1,id,id⟩
    · refine ⟨_,h1,(fun e => by cases e),fun hh => ?_⟩
      rcases hh with h0 | ⟨h1,h2,h3,h4,h5,-,h7⟩
      · exact .inl ⟨h0.1,h0.2.1,h0.2.2.1,h0.2.2.2.1,fun e => by cases e⟩
      · exact .inr ⟨h1,h2,h3,h4,h5,(by simp),h7⟩
  refine ⟨r,b2,β₂,fp₂,hR,hag,by rw [hd.1]; exact hlen,fun β' hβ => ?_,hfr,fun j r' hj hm k hk => ?_,fun j r' hj k hk => ?_⟩
  · rw [hd.1] at hβ
    obtain ⟨he,hb⟩ := hall β' hβ
    refine ⟨he,⟨fun j r' hj => ?_,fun j r' hj k hk => ?_,fun j l a b hj hl hne hmm => ?_⟩⟩
    · obtain ⟨r,hr,-,hv⟩ := old hj
      exact hv (hb.holds j _ hr)
    · obtain ⟨r,hr,-⟩ := old hj
      exact hb.lt j r hr k hk
    · obtain ⟨r,hr,e,-⟩ := old hj
      obtain ⟨r',hr',e',-⟩ := old hl
      exact hb.sep j l r r' hr hr' hne (hmm.imp e e')
  · obtain ⟨r,hr,e,-⟩ := old hj
    exact hmine j r hr (e hm) k hk
  · obtain ⟨r,hr,-⟩ := old hj
    exact hfoot j r hr k hk
theorem SC.mono {R R' : SV → List Res → Prop} (h : SC V f args bs R) (k : ∀ r bs',R r bs' → R' r bs') : SC V f args bs R' := by
  refine ⟨h.1,fun β fp w hbx hG hE => (h.2 β fp w hbx hG hE).mono ?_⟩
  rintro e w' ⟨r,bs',β₂,fp₂,hR,h2⟩
  exact ⟨r,bs',β₂,fp₂,k _ _ hR,h2⟩
/-! slices that grow -/
theorem at_new (b : List Res) (X : Res) : (b ++ [X])[b.length]? = some X := by simp
theorem at_old {b : List Res} {j : Nat} {r : Res} (h : b[j]? = some r) (X : List Res) : (b ++ X)[j]? = some r := by
  rw [List.getElem?_append_left ((List.getElem?_eq_some_iff.1 h).1)]; exact h
def Sl (e s L : Nat) (x : SV) (b : List Res) (c : List SV) (n : Nat) : Prop := (x = .nils ∧ c = [] ∧ n = 0) ∨ ∃ j,x = .o j n ∧ L ≤ j ∧ b[j]? = some (.own c e s n true)
def Kp (bs b : List Res) : Prop := bs.length ≤ b.length ∧ ∀ k,k < bs.length → b[k]? = bs[k]?
theorem Kp.refl (bs : List Res) : Kp bs bs := ⟨Nat.le_refl _,fun _ _ => rfl⟩
theorem Kp.trans {a b c : List Res} (h : Kp a b) (k : Kp b c) : Kp a c := ⟨Nat.le_trans h.1 k.1,fun i hi => (k.2 i (Nat.lt_of_lt_of_le hi h.1)).trans (h.2 i hi)⟩
theorem Kp.app {bs b : List Res} (h : Kp bs b) (X : List Res) : Kp bs (b ++ X) := ⟨by rw [List.length_append]; have := h.1; omega,fun k hk => by rw [List.getElem?_append_left (by have := h.1; omega)]; exact h.2 k hk⟩
theorem Kp.set {bs b : List Res} (h : Kp bs b) {j : Nat} (hj : bs.length ≤ j) (X : Res) : Kp bs (b.set j X) := ⟨by rw [List.length_set]; exact h.1,fun k hk => by rw [List.getElem?_set_ne (by omega)]; exact h.2 k hk⟩
theorem Kp.at {bs b : List Res} (h : Kp bs b) {j : Nat} {r : Res} (hj : bs[j]? = some r) : b[j]? = some r := (h.2 j ((List.getElem?_eq_some_iff.1 hj).1)).trans hj
theorem Sl.app {e s L : Nat} {x : SV} {b : List Res} {c : List SV} {n : Nat} (h : Sl e s L x b c n) (X : List Res) : Sl e s L x (b ++ X) c n := by
  rcases h with h | ⟨j,h1,h2,h3⟩
  · exact .inl h
  · exact .inr ⟨j,h1,h2,at_old h3 X⟩
theorem set_new {α : Type} (b : List α) (X Y : α) : (b ++ [X]).set b.length Y = b ++ [Y] := by simp
theorem set_prev {α : Type} (b : List α) (X Y Z : α) : (b ++ [X] ++ [Y]).set b.length Z = b ++ [Z] ++ [Y] := by simp
theorem set_prev2 {α : Type} (b : List α) (X Y Z W : α) : (b ++ [X] ++ [Y] ++ [W]).set b.length Z = b ++ [Z] ++ [Y] ++ [W] := by simp
theorem at_prev {α : Type} (b : List α) (X Y : α) : (b ++ [X] ++ [Y])[b.length]? = some X := by simp
theorem at_prev2 {α : Type} (b : List α) (X Y Z : α) : (b ++ [X] ++ [Y] ++ [Z])[b.length]? = some X := by simp
theorem at_prev3 {α : Type} (b : List α) (X Y Z W : α) : (b ++ [X] ++ [Y] ++ [Z] ++ [W])[b.length]? = some X := by simp
theorem at_prev4 {α : Type} (b : List α) (X Y Z W U : α) : (b ++ [X] ++ [Y] ++ [Z] ++ [W] ++ [U])[b.length]? = some X := by simp
def lawB := And.intro (And.intro (@at_new) (And.intro (@at_prev) (@at_prev2))) (And.intro (And.intro (@at_prev3) (@at_prev4)) (And.intro (@set_new) (And.intro (@set_prev) (@set_prev2))))
end Vc
/- Slices of flat values among the arguments. -/
set_option linter.all false
namespace Go.Proofs.YtejfjmcjicpodaaGreatDoor
open Go Vc Go.RowKit Wf
open Go.ChangeShapes Go.WideShapes Go.ChangeAt
open Go.WideMaps Go.WideElems
theorem lies_app {w : World} {b off : Nat} {xs ys : List Value} (h1 : Lies w b off xs) (h2 : Lies w b (off + xs.length) ys) : Lies w b off (xs ++ ys) := fun j v hv => by
  rcases Nat.lt_or_ge j xs.length with h | h
  · rw [List.getElem?_append_left h] at hv
    exact h1 j v hv
  · rw [List.getElem?_append_right h] at hv
    have := h2 (j - xs.length) v hv
    rwa [show off + xs.length + (j - xs.length) = off + j by omega] at this
theorem lies_rows {ρ : Type} {w : World} {b s : Nat} (vs : ρ → List Value) : ∀ (L : List ρ) (off : Nat),(∀ r ∈ L,(vs r).length = s) → (∀ (i : Nat) (r : ρ),L[i]? = some r → Lies w b (off + i * s) (vs r)) → Lies w b off (L.flatMap vs)
  | [],_,_,_ => fun j v hv => by simp at hv
  | r :: L,off,hs,h => by
    rw [List.flatMap_cons]
    refine lies_app (by simpa using h 0 r rfl) (lies_rows vs L _ (fun q hq => hs q (List.mem_cons_of_mem _ hq)) (fun i q hq => ?_))
    have := h (i + 1) q hq
    rw [hs r List.mem_cons_self]
    rwa [show off + s + i * s = off + (i + 1) * s by rw [Nat.add_mul]; omega]
theorem flat_rows {ρ : Type} {s : Nat} (vs : ρ → List SV) : ∀ (L : List ρ),(∀ r ∈ L,(vs r).length = s) → (L.flatMap vs).length = L.length * s
  | [],_ => by simp
  | r :: L,hs => by
    rw [List.flatMap_cons,List.length_append,hs r List.mem_cons_self,flat_rows vs L (fun q hq => hs q (List.mem_cons_of_mem _ hq)),List.length_cons,Nat.add_mul]
    omega
section
variable {H : Type} {enc : TypeId × Value → H} {P : Program} {w : World} {held : Bool}
end
theorem weights_field {H : Type} {P : Program} {t u : TypeId} {fs : Array Field} (ht : P.underlying t = some (.struct fs)) {parts : List (DataW H)} {j : Nat} {d : DataW H} (hj : (fs.toList.map (·.type))[j]? = some u) (hd : parts[j]? = some d) {n : Nat} (hn : n ∈ d.weights P u) : n ∈ (DataW.agg parts).weights P t := by
  simp only [DataW.weights,ht]
  exact DataW.weights_mem_each hj hd n hn
end Go.Proofs.YtejfjmcjicpodaaGreatDoor
/- Slices within slices among the arguments. -/
set_option linter.all false
namespace Go.Proofs.YtejfjmcjicpodaaGreatDoor
open Go Vc Go.RowKit Wf
open Go.ChangeShapes Go.WideShapes Go.ChangeAt
open Go.WideMaps Go.WideElems
def Ext (β : Nat → Bt) (l : List (Bt × Res)) : Prop := ∀ (i : Nat) (x : Bt × Res),l[i]? = some x → β i = x.1
theorem Ext.left {β : Nat → Bt} {l m : List (Bt × Res)} (h : Ext β (l ++ m)) : Ext β l := fun i x hx => h i x (by rw [List.getElem?_append_left (List.getElem?_eq_some_iff.1 hx).1]; exact hx)
def OpenL (w : World) (l : List (Bt × Res)) : Prop := ∀ β,Ext β l → ∀ x ∈ l,x.2.mine = false ∧ Holds β x.1 (fun k => k = x.1.blk ∧ x.1.cap ≠ 0) w x.2 ∧ (x.1.cap ≠ 0 → x.1.blk < w.heap.size)
theorem OpenL.nil (w : World) : OpenL w [] := fun _ _ x hx => by cases hx
theorem OpenL.snoc {w : World} {l : List (Bt × Res)} (h : OpenL w l) {b : Bt} {r : Res} (hm : r.mine = false) (hh : ∀ β,Ext β l → Holds β b (fun k => k = b.blk ∧ b.cap ≠ 0) w r) (hb : b.cap ≠ 0 → b.blk < w.heap.size) : OpenL w (l ++ [(b,r)]) := fun β hβ x hx => by
  rcases List.mem_append.1 hx with hx | hx
  · exact h β hβ.left x hx
  · obtain rfl := List.mem_singleton.1 hx
    exact ⟨hm,hh β hβ.left,hb⟩
def betaL (l : List (Bt × Res)) : Nat → Bt := fun i => ((l[i]?).map (·.1)).getD (bt0 0)
theorem betaL_ext (l : List (Bt × Res)) : Ext (betaL l) l := fun i x hx => by simp [betaL,hx]
theorem SC.lawN {V : Cx} {f : FuncId} {args : List SV} {l : List (Bt × Res)} (h : SC V f args (l.map (·.2)) (fun r _ => r = .bool true)) {w : World} (hE : V.E w) (hh : OpenL w l) :
    Calls V.P f (concL (betaL l) args).toArray w fun e w' => e = .returned (.bool true) ∧ Below w.heap.size w w' := by
  have hno : ∀ (i : Nat) (r : Res),(l.map (·.2))[i]? = some r → r.mine = false := fun i r hi => by
    rw [List.getElem?_map,Option.map_eq_some_iff] at hi
    obtain ⟨x,hx,rfl⟩ := hi
    exact (hh _ (betaL_ext l) x (List.mem_of_getElem? hx)).1
  obtain ⟨fp,hfp⟩ : ∃ fp : Nat → Nat → Prop,∀ i k,fp i k ↔ ∃ x,l[i]? = some x ∧ k = x.1.blk ∧ x.1.cap ≠ 0 := ⟨fun i k => ∃ x,l[i]? = some x ∧ k = x.1.blk ∧ x.1.cap ≠ 0,fun _ _ => Iff.rfl⟩
  have hbx : ∀ β',Agr (l.map (·.2)).length (betaL l) β' → BxOK β' fp w (l.map (·.2)) := fun β' hβ => by
    have hext : Ext β' l := fun i x hx => by
      have := hβ i (by simpa using (List.getElem?_eq_some_iff.1 hx).1)
      rw [← this]; exact betaL_ext l i x hx
    refine BxOK.mk ?_ ?_ ?_
    · intro i r hi
      rw [List.getElem?_map,Option.map_eq_some_iff] at hi
      obtain ⟨x,hx,rfl⟩ := hi
      rw [hext i x hx]
      have h2 := (hh β' hext x (List.mem_of_getElem? hx)).2.1
      have e : fp i = fun k => k = x.1.blk ∧ x.1.cap ≠ 0 := by
        funext k
        exact propext ⟨fun h => by obtain ⟨y,hy,h1⟩ := (hfp i k).1 h; rw [hx] at hy; cases hy; exact h1,fun h => (hfp i k).2 ⟨x,hx,h⟩⟩
      rw [e]; exact h2
    · intro i r hi k hk
      obtain ⟨x,hx,rfl,hc⟩ := (hfp i k).1 hk
      exact (hh _ (betaL_ext l) x (List.mem_of_getElem? hx)).2.2 hc
    · intro i j r r' hi hj _ hm
      rw [hno i r hi,hno j r' hj] at hm
      simp at hm
  refine (h.2 (betaL l) fp w hbx ?_ hE).mono ?_
  · intro i r hi hm
    rw [hno i r hi] at hm
    cases hm
  · rintro e w' ⟨r,bs',β₂,fp₂,rfl,hag,hle,hall,hfr,-⟩
    refine ⟨by have := (hall β₂ (Agr.refl _ _)).1; simpa [conc] using this,?_⟩
    refine (hfr.mono (own' := fun _ => False) ?_).below
    rintro k ⟨i,r,hi,hm,-⟩
    rw [hno i r hi] at hm
    cases hm
theorem cell_spot {w : World} {a : Addr} {v : Value} (h : w.cell? a = some v) : a.spot = none ∧ a.block < w.heap.size := by
  unfold World.cell? at h
  split at h
  · rename_i c t fz hh
    split at h
    · cases h
    · rename_i hs
      exact ⟨by simpa using hs,(Array.getElem?_eq_some_iff.1 hh).1⟩
  · cases h
section
variable {H : Type} {enc : TypeId × Value → H} {P : Program} {w : World} {held : Bool}
theorem open_rowsN {ρ : Type} (cl : ρ → List SV) (Pr : List (Bt × Res) → ρ → Prop) (mono : ∀ l ls r,Pr l r → Pr (l ++ ls) r) {t e : TypeId} {s m : Nat} (hs0 : 0 < s)
    (ht : P.underlying t = some (.slice e)) (hs : P.cellsOf e = s) (W : DataW H → Prop)
    (hrow : ∀ (l : List (Bt × Res)),OpenL w l → ∀ cs x,DataW.trod enc P w 0 (fun _ => true) held m e cs = some x → W x.1 → ∃ ls r,OpenL w (l ++ ls) ∧ (∀ β,Ext β (l ++ ls) → cs = (cl r).map (conc β)) ∧ Pr (l ++ ls) r)
    {l : List (Bt × Res)} (hl : OpenL w l) {c : Value} {x : DataW H × List MemPlace} {M : Nat} (hM : M ≤ m + 1) (h : DataW.trod enc P w 0 (fun _ => true) held M t [c] = some x) (hW : ∀ L sp,x.1 = .slice L sp → ∀ d ∈ L,W d) :
    ∃ ls y L,OpenL w (l ++ ls) ∧ L.length ≤ 9223372036854775807 ∧ (∀ β,Ext β (l ++ ls) → c = conc β y) ∧ ((y = .nils ∧ L = []) ∨ ∃ i,y = .o i L.length ∧ ((l ++ ls).map (·.2))[i]? = some (.own (L.flatMap cl) e s L.length false)) ∧ (∀ r ∈ L,Pr (l ++ ls) r) ∧ (L = [] ∨ ∃ Le sp,x.1 = .slice Le sp ∧ Le.length = L.length) := by
  have h := DataW.trod_le hM h
  rcases DataW.trod_slice ht h with ⟨hc,hx⟩ | ⟨a,len,cap,elems,rest,n,hn,hc,hx,-,hlc,hcm,hel,hE,hR,-⟩
  · simp only [List.cons.injEq,and_true] at hc
    subst hc
    exact ⟨[],.nils,[],by rw [List.append_nil]; exact hl,by simp,fun β _ => by simp [conc],.inl ⟨rfl,rfl⟩,by simp,.inl rfl⟩
  obtain rfl : n = m := by omega
  clear hn
  simp only [List.cons.injEq,and_true] at hc
  subst hc hx
  rw [hs] at hE hR
  obtain ⟨hRl,hR⟩ := hR rfl
  have hcm' : cap ≤ 9223372036854775807 := by unfold maxLen at hcm; simpa using hcm
  by_cases h0 : cap = 0
  · subst h0
    obtain rfl : len = 0 := by omega
    obtain ⟨b,hb,hA⟩ := nilA_any a
    refine ⟨[(b,.own [] e s 0 false)],.o l.length 0,[],hl.snoc rfl (fun β _ => .inl ⟨hb,rfl,rfl,fun k hk => hk.2 hb,fun e => by cases e⟩) (fun k => absurd hb k),by simp,fun β hβ => ?_,.inr ⟨l.length,rfl,by simp⟩,by simp,.inl rfl⟩
    have := hβ l.length (b,.own [] e s 0 false) (by simp)
    simp only [conc,oV,this,hb,if_true,hA]
  -- the first cell tells that the place is a row's
  have hspot : a.spot = none ∧ a.block < w.heap.size := by
    have h1 : ∃ cs,w.cells? 0 a s = some cs := by
      rcases Nat.eq_zero_or_pos len with e | e
      · subst e
        have h2 := hR 0 (by omega)
        rw [List.getElem?_eq_getElem (by omega)] at h2
        obtain ⟨cs,h3,-⟩ := Option.bind_eq_some_iff.1 h2
        simp only [Nat.add_zero,Nat.zero_mul] at h3
        exact ⟨cs,by simpa [Addr.add] using h3⟩
      · have h2 := hE 0 e
        rw [List.getElem?_eq_getElem (by omega)] at h2
        obtain ⟨cs,h3,-⟩ := Option.bind_eq_some_iff.1 h2
        simp only [Nat.zero_mul] at h3
        exact ⟨cs,by simpa [Addr.add] using h3⟩
    obtain ⟨cs,h1⟩ := h1
    obtain ⟨-,h2,h3⟩ := World.cells?_some h1
    have h4 := h3 0 hs0
    rw [List.getElem?_eq_getElem (by omega)] at h4
    exact cell_spot (a := a) (by simpa [Addr.add] using h4)
  obtain ⟨blk,off,spot⟩ := a
  obtain ⟨hsp,hbl⟩ := hspot
  simp only at hsp hbl
  subst hsp
  -- the elements,one after the other
  have acc : ∀ k,k ≤ len → ∃ (ls : List (Bt × Res)) (L : List ρ),OpenL w (l ++ ls) ∧ L.length = k ∧ (∀ r ∈ L,Pr (l ++ ls) r ∧ (cl r).length = s) ∧ ∀ (i : Nat) (r : ρ),L[i]? = some r → ∀ β,Ext β (l ++ ls) → Lies w blk (off + i * s) ((cl r).map (conc β)) := by
    intro k
    induction k with
    | zero => exact fun _ => ⟨[],[],by rw [List.append_nil]; exact hl,rfl,by simp,fun i r h => by simp at h⟩
    | succ k ih =>
      intro hk
      obtain ⟨ls,L,g1,g2,g3,g4⟩ := ih (by omega)
      have h2 := hE k (by omega)
      rw [List.getElem?_eq_getElem (by omega)] at h2
      obtain ⟨cs,h3,h4⟩ := Option.bind_eq_some_iff.1 h2
      obtain ⟨ls',r,k1,k2,k3⟩ := hrow (l ++ ls) g1 cs _ h4 (hW _ _ rfl _ (List.mem_map.2 ⟨_,List.getElem_mem (by omega),rfl⟩))
      rw [List.append_assoc] at k1 k2 k3
      obtain ⟨-,h5,h6⟩ := World.cells?_some h3
      have hrl : (cl r).length = s := by rw [← h5,k2 (betaL _) (betaL_ext _),List.length_map]
      refine ⟨ls ++ ls',L ++ [r],k1,by simp [g2],fun q hq => ?_,fun i q hq β hβ => ?_⟩
      · rcases List.mem_append.1 hq with hq | hq
        · rw [← List.append_assoc]
          exact ⟨mono _ _ _ (g3 q hq).1,(g3 q hq).2⟩
        · obtain rfl := List.mem_singleton.1 hq
          exact ⟨k3,hrl⟩
      · rcases Nat.lt_or_ge i L.length with hi | hi
        · rw [List.getElem?_append_left hi] at hq
          exact g4 i q hq β (by rw [← List.append_assoc] at hβ; exact hβ.left)
        · have hi' : i = k := by
            have := (List.getElem?_eq_some_iff.1 hq).1
            simp at this
            omega
          subst hi'
          rw [List.getElem?_append_right hi,g2,Nat.sub_self] at hq
          cases hq
          intro j v hv
          rw [← k2 β hβ] at hv
          have hj : j < s := by rw [← h5]; exact (List.getElem?_eq_some_iff.1 hv).1
          have := h6 j hj
          rw [addr_plus,addr_plus] at this
          rw [this]; exact hv
  obtain ⟨ls,L,g1,g2,g3,g4⟩ := acc len (Nat.le_refl _)
  have hi : l.length + ls.length = (l ++ ls).length := by simp
  refine ⟨ls ++ [(⟨blk,off,cap + 1⟩,.own (L.flatMap cl) e s L.length false)],.o (l.length + ls.length) L.length,L,?_,by omega,fun β hβ => ?_,.inr ⟨_,rfl,?_⟩,fun r hr => ?_,.inr ⟨_,_,rfl,by simp [hel,g2]⟩⟩
  · rw [← List.append_assoc]
    refine g1.snoc rfl (fun β hβ => .inr ⟨by simp,by simp; omega,by simpa using hcm,flat_rows cl _ fun r hr => (g3 r hr).2,?_,(by simp),fun k => by simp⟩) (fun _ => hbl)
    rw [List.map_flatMap]
    exact lies_rows (fun r => (cl r).map (conc β)) L off (fun r hr => by rw [List.length_map]; exact (g3 r hr).2) (fun i r hr => g4 i r hr β hβ)
  · rw [← List.append_assoc] at hβ
    have := hβ (l.length + ls.length) (⟨blk,off,cap + 1⟩,.own (L.flatMap cl) e s L.length false) (by rw [hi]; simp)
    simp [conc,oV,this,g2]
  · rw [← List.append_assoc,List.map_append,List.getElem?_append_right (by simp)]
    simp
  · rw [← List.append_assoc]
    exact mono _ _ _ (g3 r hr).1
end
end Go.Proofs.YtejfjmcjicpodaaGreatDoor
/- strings.IndexRune at a rune that is no ASCII,in an ASCII string; strings.IndexAny at an ASCII set. -/
set_option linter.all false
namespace Go.Proofs.YtejfjmcjicpodaaGreatDoor
open Go.RowKit Wf
attribute [local go_sem] ex_list app_list get_list

end Go.Proofs.YtejfjmcjicpodaaGreatDoor
/- The walks of package ascii. -/
set_option linter.all false
namespace Go.Proofs.YtejfjmcjicpodaaGreatDoor
open Go.RowKit Wf
attribute [local go_sem] ex_list app_list get_list
set_option maxHeartbeats 400000 in
theorem ascii_IsDigit (c : UInt8) (w : World) : Calls Tryz.prog 91 #[.int .u8 c.toNat] w fun e w' => e = .returned (.bool (isDigit c)) ∧ w = w' := by
  go_enter Tryz.func91,Tryz.ntmps91
  go_wp2
  all_goals
    go_ret
    refine ⟨ret_bool ?_,rfl⟩
    have hb := or32 c
    have hc := c.toNat_lt
    rw [Bool.eq_iff_iff]
    simp [isDigit]
    try omega
set_option maxHeartbeats 400000 in
theorem ascii_IsAlpha (c : UInt8) (w : World) : Calls Tryz.prog 136 #[.int .u8 c.toNat] w fun e w' => e = .returned (.bool (isAlpha c)) ∧ w = w' := by
  go_enter Tryz.func136,Tryz.ntmps136
  go_wp2
  all_goals
    go_ret
    refine ⟨ret_bool ?_,rfl⟩
    have hb := or32 c
    have hc := c.toNat_lt
    rw [Bool.eq_iff_iff]
    simp [isAlpha]
    try omega
set_option maxHeartbeats 400000 in
theorem ascii_IsHex (c : UInt8) (w : World) : Calls Tryz.prog 123 #[.int .u8 c.toNat] w fun e w' => e = .returned (.bool (isHex c)) ∧ w = w' := by
  go_enter Tryz.func123,Tryz.ntmps123
  go_wp2
  all_goals
    go_ret
    refine ⟨ret_bool ?_,rfl⟩
    have hb := or32 c
    have hc := c.toNat_lt
    rw [Bool.eq_iff_iff]
    simp [isHex]
    try omega
end Go.Proofs.YtejfjmcjicpodaaGreatDoor
/- Rows of bytes of the call's own: what a conversion lays,reads and stores; a string made of them. -/
set_option linter.all false
namespace Go.Proofs.YtejfjmcjicpodaaGreatDoor
open Go.RowKit Wf
def u8V (b : UInt8) : Value := .int .u8 b.toNat
def RowU8 (w : World) (b : Nat) (l : Bytes) : Prop := ∃ (rest : List Value) (T : TypeId) (fz : Nat × Nat),w.heap[b]? = some (.cells (l.map u8V ++ rest).toArray T fz) ∧ (l.length ≤ fz.1 ∨ fz.2 ≤ fz.1)
theorem RowU8.cell {w : World} {b : Nat} {l : Bytes} (h : RowU8 w b l) {k : Nat} (hk : k < l.length) : w.cell? ⟨b,k,none⟩ = some (.int .u8 l[k].toNat) := by
  obtain ⟨rest,T,fz,hb,_⟩ := h
  rw [Lib.cell_of_heap hb k]
  simp [List.getElem?_append_left,hk,u8V]
theorem RowU8.set {w : World} {b : Nat} {l : Bytes} (h : RowU8 w b l) {k : Nat} (hk : k < l.length) (x : UInt8) : RowU8 (w.setCell ⟨b,k,none⟩ (.int .u8 x.toNat)) b (l.set k x) := by
  obtain ⟨rest,T,fz,hb,hf⟩ := h
  refine ⟨rest,T,fz,?_,by simpa using hf⟩
  rw [heap_set hb]
  congr 2
  simp [List.set_append_left,hk,List.map_set,u8V]
theorem RowU8.back {w : World} {b : Nat} {l : Bytes} (h : RowU8 w b l) (cap : Nat) :
    (convert 120 9 (.slice (some ⟨b,0,none⟩) l.length cap)).run Tryz.prog w = .ok (Value.string ⟨List.toArray (l)⟩) w := by
  refine run_convert_bytes_back w _ _ 5 ⟨b,0,none⟩ cap l Tryz.underlying120 Tryz.underlying5 Tryz.underlying9 (fun j hj => ?_)
  have : (⟨b,0,none⟩ : Addr).add j = ⟨b,j,none⟩ := by
    unfold Addr.add
    split
    · subst j; rfl
    · simp
  rw [this]
  exact h.cell hj
end Go.Proofs.YtejfjmcjicpodaaGreatDoor
/- The walks of package ascii: strings. -/
set_option linter.all false
namespace Go.Proofs.YtejfjmcjicpodaaGreatDoor
open Go.RowKit Wf
attribute [local go_sem] ex_list app_list get_list


end Go.Proofs.YtejfjmcjicpodaaGreatDoor
/- The library's contracts on strings,for the calculus of conditions. -/
set_option linter.all false
namespace Go.Proofs.YtejfjmcjicpodaaGreatDoor
open Go Vc Go.RowKit Wf
theorem below_draws {w w' : World} (h : ∃ n,w' = w.drewN n) : Below w.heap.size w w' := by
  obtain ⟨n,rfl⟩ := h
  exact below_drewN (Below.refl _ _) _
theorem below_same {w w' : World} (h : w = w') : Below w.heap.size w w' := by subst h; exact Below.refl _ _
theorem p_IndexByte (l : Bytes) (c : UInt8) : PC Tryz.V 99 [.str l,.int .u8 c.toNat] (.int .i64 (Lib.indexByte l c)) :=
  ⟨Tryz.call99,by simp [flat,flat.flatL],by simp [flat,flat.flatL],fun w hE => (s_IndexByte l c w).mono fun _ _ ⟨h,k⟩ => ⟨h,below_same k⟩⟩
theorem p_HasPrefix (l p : Bytes) : PC Tryz.V 97 [.str l,.str p] (.bool (Lib.hasPrefix l p)) :=
  ⟨Tryz.call97,by simp [flat,flat.flatL],by simp [flat,flat.flatL],fun w hE => (s_HasPrefix l p w).mono fun _ _ ⟨h,k⟩ => ⟨h,below_same k⟩⟩
theorem p_CutPrefix (l p : Bytes) : PC Tryz.V 60 [.str l,.str p] (.tup [.str (Lib.trimPrefix l p),.bool (Lib.hasPrefix l p)]) :=
  ⟨Tryz.call60,by simp [flat,flat.flatL],by simp [flat,flat.flatL],fun w hE => (s_CutPrefix l p w).mono fun _ _ ⟨h,k⟩ => ⟨h,below_same k⟩⟩
theorem p_Cut (l : Bytes) (c : UInt8) (hl : l.length < 4294967281) : PC Tryz.V 61 [.str l,.str [c]] (.tup [.str (cutC c l).1,.str (cutC c l).2.1,.bool (cutC c l).2.2]) :=
  ⟨Tryz.call61,by simp [flat,flat.flatL],by simp [flat,flat.flatL],fun w hE => (s_Cut l c w hE hl).mono fun _ _ ⟨h,k⟩ => ⟨h,below_draws k⟩⟩
theorem byte_is {s : Bytes} {k : Nat} (hk : k < s.length) (c : UInt8) {n : Int} (hn : n = c.toNat) : (((s.getD k 0).toNat : Int) == n) = (s[k] == c) := by
  subst hn
  rw [show s.getD k 0 = s[k] by simp [List.getD,hk],Bool.eq_iff_iff]
  simp only [beq_iff_eq]
  exact ⟨fun h => UInt8.toNat_inj.1 (by exact_mod_cast h),fun h => by rw [h]⟩
end Go.Proofs.YtejfjmcjicpodaaGreatDoor
/- Small parts of the calculus that many walks use. -/
set_option linter.all false
set_option maxRecDepth 20000
namespace Go.Proofs.YtejfjmcjicpodaaGreatDoor
open Go Vc Go.RowKit Wf
def lkI (i : Nat) (σ : St) : Nat := match lk i σ.t with
  | some (.int _ n) => n.toNat
  | _ => 0
theorem lkI_eq {i : Nat} {σ : St} {k : IntKind} {n : Int} (h : lk i σ.t = some (.int k n)) : lkI i σ = n.toNat := by simp [lkI,h]
theorem rows_at {ρ : Type} (cl : ρ → List SV) (s : Nat) (hs : ∀ r,(cl r).length = s) : ∀ (L : List ρ) (k : Nat) (h : k < L.length),((L.flatMap cl).drop (k * s)).take s = cl L[k]
  | [],k,h => by simp at h
  | r :: L,0,_ => by
    have := hs r
    simp [List.take_append,List.take_of_length_le (Nat.le_of_eq this),this]
  | r :: L,k + 1,h => by
    have h1 := hs r
    have h2 : ((r :: L).flatMap cl).drop ((k + 1) * s) = (L.flatMap cl).drop (k * s) := by
      rw [List.flatMap_cons,List.drop_append,List.drop_of_length_le (by rw [Nat.add_mul]; omega),List.nil_append,show (k + 1) * s - (cl r).length = k * s by rw [Nat.add_mul]; omega]
    rw [h2]
    simpa using rows_at cl s hs L k (by simpa using h)
theorem rows_len {ρ : Type} (cl : ρ → List SV) (s : Nat) (hs : ∀ r,(cl r).length = s) : ∀ (L : List ρ),(L.flatMap cl).length = L.length * s
  | [] => by simp
  | r :: L => by rw [List.flatMap_cons,List.length_append,hs r,rows_len cl s hs L,List.length_cons,Nat.add_mul]; omega
theorem sc_forget {V : Cx} {f : FuncId} {args : List SV} {bs : List Res} {x : SV} (hx : flat x = true) (h : SC V f args bs (fun r b => r = x ∧ Kp bs b)) : SC V f args bs (fun r b => r = x ∧ b = bs) := by
  refine ⟨h.1,fun β fp w hbx hG hE => (h.2 β fp w hbx hG hE).mono ?_⟩
  rintro e w' ⟨r,bs',β₂,fp₂,⟨rfl,hlen,hkp⟩,hag,-,hall,hfr,hmine,hfoot⟩
  have old : ∀ {i r},bs[i]? = some r → bs'[i]? = some r := fun {i r} hi => (hkp i (List.getElem?_eq_some_iff.1 hi).1).trans hi
  refine ⟨r,bs,β₂,fp₂,⟨rfl,rfl⟩,hag,Nat.le_refl _,fun β' hβ => ?_,hfr,fun i r' hi => hmine i r' (old hi),fun i r' hi => hfoot i r' (old hi)⟩
  have hc : ∀ i,i < bs.length → (if i < bs.length then β' i else β₂ i) = β' i := fun i hi => if_pos hi
  have hall2 := hall (fun i => if i < bs.length then β' i else β₂ i) (fun i _ => by
    by_cases hi : i < bs.length
    · exact (hβ i hi).trans (hc i hi).symm
    · exact (if_neg hi).symm)
  have hb1 := hbx (fun i => if i < bs.length then β' i else β₂ i) (fun i hi => ((hag i hi).trans (hβ i hi)).trans (hc i hi).symm)
  have hb2 := hbx β' (fun i hi => (hag i hi).trans (hβ i hi))
  obtain ⟨he,hbx2⟩ := hall2
  refine ⟨by rw [he,conc_flat _ hx _ β'],⟨fun i r hi => ?_,fun i r hi => hbx2.lt i r (old hi),fun i j r r' hi hj => hbx2.sep i j r r' (old hi) (old hj)⟩⟩
  have h1 := hb1.holds i r hi
  have h2 := hb2.holds i r hi
  have h3 := hbx2.holds i r (old hi)
  have e := hc i (List.getElem?_eq_some_iff.1 hi).1
  simp only [e] at h1 h3
  exact res_agr h1 h2 h3
end Go.Proofs.YtejfjmcjicpodaaGreatDoor
/- Trees of JSON values whose rows may only be read. -/
set_option linter.all false
namespace Go.Proofs.YtejfjmcjicpodaaGreatDoor
open Go Vc Go.RowKit Wf
set_option linter.unusedSimpArgs false
def Ro (a b : List Res) : Prop := ∀ (j : Nat) (c : List SV) (e s n : Nat),a[j]? = some (.own c e s n false) → b[j]? = some (.own c e s n false)
theorem Ro.refl (a : List Res) : Ro a a := fun _ _ _ _ _ h => h
theorem Ro.trans {a b c : List Res} (h : Ro a b) (k : Ro b c) : Ro a c := fun j _ _ _ _ x => k j _ _ _ _ (h j _ _ _ _ x)
end Go.Proofs.YtejfjmcjicpodaaGreatDoor
namespace Vc
open Go.Proofs.YtejfjmcjicpodaaGreatDoor
open Go Vc Go.RowKit Wf
theorem Kp.ro {a b : List Res} (h : Kp a b) : Ro a b := fun _ _ _ _ _ x => h.at x
end Vc
namespace Go.Proofs.YtejfjmcjicpodaaGreatDoor
open Go Vc Go.RowKit Wf
theorem Ro.app {a b : List Res} (h : Ro a b) (X : List Res) : Ro a (b ++ X) := fun j _ _ _ _ x => at_old (h j _ _ _ _ x) X
end Go.Proofs.YtejfjmcjicpodaaGreatDoor
namespace Vc
open Go.Proofs.YtejfjmcjicpodaaGreatDoor
open Go Vc Go.RowKit Wf
theorem Dim.ro {a b : List Res} (h : Dim a b) : Ro a b := fun j c e s n x => by
  have hl : j < b.length := by rw [h.1]; exact (List.getElem?_eq_some_iff.1 x).1
  rcases h.2 j b[j] (List.getElem?_eq_getElem hl) with h1 | ⟨c',e',s',n',m',h1,h2⟩
  · rw [List.getElem?_eq_getElem hl,← h1,x]
  · rw [x] at h1
    cases h1
    rw [List.getElem?_eq_getElem hl,h2]
end Vc
namespace Go.Proofs.YtejfjmcjicpodaaGreatDoor
open Go Vc Go.RowKit Wf
theorem Ro.set {a b : List Res} (h : Ro a b) {q : Nat} (hq : ∀ c e s n,b[q]? ≠ some (.own c e s n false)) (X : Res) : Ro a (b.set q X) := fun j c e s n x => by
  have := h j c e s n x
  have hne : q ≠ j := by rintro rfl; exact hq _ _ _ _ this
  rw [List.getElem?_set_ne hne]
  exact this
theorem Ro.setT {a b : List Res} (h : Ro a b) {q : Nat} {c : List SV} {e s n : Nat} (hq : b[q]? = some (.own c e s n true)) (X : Res) : Ro a (b.set q X) := h.set (fun c e s n hx => by rw [hq] at hx; cases hx) X
structure Tv where
  k : Int
  t : Bytes
  xk : SV
  xi : SV
def tv (v : Tv) : List SV := [.int .i64 v.k,.str v.t,v.xk,v.xi]
def Rs (b : List Res) (x : SV) (L : List Bytes) : Prop := (x = .nils ∧ L = []) ∨ ∃ j,x = .o j L.length ∧ b[j]? = some (.own (L.map SV.str) 9 1 L.length false)
def Ri (b : List Res) (x : SV) (L : List Tv) : Prop := (x = .nils ∧ L = []) ∨ ∃ j,x = .o j L.length ∧ b[j]? = some (.own (L.flatMap tv) 25 4 L.length false)
theorem Rs.ro {a b : List Res} {x : SV} {L : List Bytes} (h : Rs a x L) (k : Ro a b) : Rs b x L := by
  rcases h with h | ⟨j,h1,h2⟩
  · exact .inl h
  · exact .inr ⟨j,h1,k _ _ _ _ _ h2⟩
theorem Ri.ro {a b : List Res} {x : SV} {L : List Tv} (h : Ri a x L) (k : Ro a b) : Ri b x L := by
  rcases h with h | ⟨j,h1,h2⟩
  · exact .inl h
  · exact .inr ⟨j,h1,k _ _ _ _ _ h2⟩
theorem Rs.within {b : List Res} {x : SV} {L : List Bytes} (h : Rs b x L) : Vc.within b.length x = true := by
  rcases h with ⟨rfl,-⟩ | ⟨j,rfl,h2⟩
  · rfl
  · have := (List.getElem?_eq_some_iff.1 h2).1
    simp [Vc.within,this]
theorem Ri.within {b : List Res} {x : SV} {L : List Tv} (h : Ri b x L) : Vc.within b.length x = true := by
  rcases h with ⟨rfl,-⟩ | ⟨j,rfl,h2⟩
  · rfl
  · have := (List.getElem?_eq_some_iff.1 h2).1
    simp [Vc.within,this]
def Tr (b : List Res) : Nat → Tv → Prop
  | 0,_ => False
  | d + 1,v => v.t.length ≤ 20000 ∧ (v.k = 0 ∨ v.k = 5 ∨ v.k = 6 ∨ v.k = 7) ∧ ∃ (K : List Bytes) (L : List Tv),Rs b v.xk K ∧ Ri b v.xi L ∧ K.length ≤ 16 ∧ L.length ≤ 16 ∧ (∀ s ∈ K,s.length ≤ 20000) ∧ (v.k = 7 → K.length = L.length) ∧ (v.k ≠ 7 → K = []) ∧ ∀ x ∈ L,Tr b d x
theorem Tr.ro {a b : List Res} (k : Ro a b) : ∀ {d : Nat} {v : Tv},Tr a d v → Tr b d v
  | 0,_,h => h
  | _ + 1,_,⟨h1,h2,K,L,h3,h4,h5,h6,h7,h8,h9,h10⟩ => ⟨h1,h2,K,L,h3.ro k,h4.ro k,h5,h6,h7,h8,h9,fun x hx => (h10 x hx).ro k⟩
theorem Tr.zero (b : List Res) (d : Nat) : Tr b (d + 1) ⟨0,[],.nils,.nils⟩ := ⟨by simp,.inl rfl,[],[],.inl ⟨rfl,rfl⟩,.inl ⟨rfl,rfl⟩,by simp,by simp,by simp,by simp,by simp,by simp⟩
theorem Tr.text (b : List Res) (d : Nat) (s : Bytes) (hs : s.length ≤ 20000) : Tr b (d + 1) ⟨5,s,.nils,.nils⟩ := ⟨hs,.inr (.inl rfl),[],[],.inl ⟨rfl,rfl⟩,.inl ⟨rfl,rfl⟩,by simp,by simp,by simp,by simp,by simp,by simp⟩
theorem Tr.within {b : List Res} : ∀ {d : Nat} {v : Tv},Tr b d v → Vc.within b.length (.agg (tv v)) = true
  | 0,_,h => h.elim
  | _ + 1,_,⟨_,_,_,_,h3,h4,_⟩ => by simp [Vc.within,Vc.within.withinL,tv,h3.within,h4.within]
theorem tv_at (L : List Tv) (k : Nat) (h : k < L.length) : ((L.flatMap tv).drop (k * 4)).take 4 = tv L[k] := rows_at tv 4 (fun _ => rfl) L k h
theorem tv_len (L : List Tv) : (L.flatMap tv).length = L.length * 4 := rows_len tv 4 (fun _ => rfl) L
end Go.Proofs.YtejfjmcjicpodaaGreatDoor
/- What comes back,by new names: of the new things only some are kept,to be read only. -/
set_option linter.all false
namespace Vc
open Go Go.RowKit Wf
mutual
def ren (ρ : Nat → Nat) : SV → SV
  | .p i off => .p (ρ i) off
  | .o i n => .o (ρ i) n
  | .f i n => .f (ρ i) n
  | .agg l => .agg (renL ρ l)
  | .tup l => .tup (renL ρ l)
  | .fn f l => .fn f (renL ρ l)
  | .mv f l => .mv f (renL ρ l)
  | .ifc t x => .ifc t (ren ρ x)
  | .bool b => .bool b
  | .int k n => .int k n
  | .str l => .str l
  | .nils => .nils
  | .v x => .v x
def renL (ρ : Nat → Nat) : List SV → List SV
  | [] => []
  | x :: r => ren ρ x :: renL ρ r
end
mutual
theorem conc_ren (ρ : Nat → Nat) (β : Nat → Bt) (x : SV) : conc β (ren ρ x) = conc (fun i => β (ρ i)) x := by
  cases x <;> simp only [ren,conc]
  · rw [concL_ren ρ β _]
  · rw [concL_ren ρ β _]
  · rw [concL_ren ρ β _]
  · rw [concL_ren ρ β _]
  · rw [conc_ren ρ β _]
theorem concL_ren (ρ : Nat → Nat) (β : Nat → Bt) (l : List SV) : concL β (renL ρ l) = concL (fun i => β (ρ i)) l := by
  cases l with
  | nil => rfl
  | cons x r =>
    simp only [renL,concL]
    rw [conc_ren ρ β x,concL_ren ρ β r]
end
mutual
theorem ren_within {ρ : Nat → Nat} {m : Nat} (hρ : ∀ k,k < m → ρ k = k) (x : SV) (h : within m x = true) : ren ρ x = x := by
  cases x <;> simp only [within,decide_eq_true_eq] at h <;> simp only [ren]
  · rw [hρ _ h]
  · rw [hρ _ h]
  · rw [hρ _ h]
  · rw [renL_within hρ _ h]
  · rw [renL_within hρ _ h]
  · rw [renL_within hρ _ h]
  · rw [renL_within hρ _ h]
  · rw [ren_within hρ _ h]
theorem renL_within {ρ : Nat → Nat} {m : Nat} (hρ : ∀ k,k < m → ρ k = k) (l : List SV) (h : within.withinL m l = true) : renL ρ l = l := by
  cases l with
  | nil => rfl
  | cons x r =>
    simp only [within.withinL,Bool.and_eq_true] at h
    simp only [renL]
    rw [ren_within hρ x h.1,renL_within hρ r h.2]
end
theorem renL_map (ρ : Nat → Nat) (l : List SV) : renL ρ l = l.map (ren ρ) := by
  induction l with
  | nil => rfl
  | cons x r ih => rw [renL,ih]; rfl
variable {V : Cx} {f : FuncId} {args : List SV} {bs : List Res} {R : SV → List Res → Prop}
def Kept (bs b : List Res) (ρ : Nat → Nat) (m i : Nat) (X : Res) : Prop := X = .gone ∨ ∃ (c : List SV) (e s n : Nat) (mm : Bool),X = .own c e s n false ∧ bs.length ≤ ρ i ∧ b[ρ i]? = some (.own (renL ρ c) e s n mm) ∧ within.withinL m c = true
theorem SC.pick (h : SC V f args bs (fun r b => ∃ (ρ : Nat → Nat) (Xs : List Res) (r2 : SV),Kp bs b ∧ (∀ k,k < bs.length → ρ k = k) ∧ (∀ q X,Xs[q]? = some X → Kept bs b ρ (bs.length + Xs.length) (bs.length + q) X) ∧ r = ren ρ r2 ∧ within (bs.length + Xs.length) r2 = true ∧ R r2 (bs ++ Xs))) : SC V f args bs R := by
  refine ⟨h.1,fun β fp w hbx hG hE => (h.2 β fp w hbx hG hE).mono ?_⟩
  rintro ex w' ⟨r,bs',β₂,fp₂,⟨ρ,Xs,r2,⟨hlen,hkp⟩,hρ,hX,rfl,hw,hR⟩,hag,-,hall,hfr,hmine,hfoot⟩
  have old : ∀ {i r},bs[i]? = some r → bs'[i]? = some r := fun {i r} hi => (hkp i (List.getElem?_eq_some_iff.1 hi).1).trans hi
  obtain ⟨he,hb2⟩ := hall β₂ (fun _ _ => rfl)
  have low : ∀ {i X},(bs ++ Xs)[i]? = some X → (i < bs.length ∧ bs[i]? = some X) ∨ (bs.length ≤ i ∧ (X = .gone ∨ ∃ (c : List SV) (e s n : Nat) (mm : Bool),X = .own c e s n false ∧ bs.length ≤ ρ i ∧ bs'[ρ i]? = some (.own (renL ρ c) e s n mm) ∧ within.withinL (bs.length + Xs.length) c = true)) := fun {i X} hi => by
    rcases Nat.lt_or_ge i bs.length with h1 | h1
    · rw [List.getElem?_append_left h1] at hi
      exact .inl ⟨h1,hi⟩
    · rw [List.getElem?_append_right h1] at hi
      have := hX _ _ hi
      rw [show bs.length + (i - bs.length) = i by omega] at this
      exact .inr ⟨h1,this⟩
  have ng : ∀ {i X},(bs ++ Xs)[i]? = some X → X ≠ .gone → bs'[ρ i]? ≠ none ∧ (i < bs.length ∧ ρ i = i ∨ bs.length ≤ i ∧ bs.length ≤ ρ i) := fun {i X} hi hg => by
    rcases low hi with ⟨h1,h2⟩ | ⟨h1,h2 | ⟨c,e,s,n,mm,-,h3,h4,-⟩⟩
    · rw [hρ i h1,old h2]
      exact ⟨by simp,.inl ⟨h1,rfl⟩⟩
    · exact absurd h2 hg
    · rw [h4]
      exact ⟨by simp,.inr ⟨h1,h3⟩⟩
  refine ⟨r2,bs ++ Xs,fun i => β₂ (ρ i),fun i k => (bs ++ Xs)[i]? ≠ some .gone ∧ fp₂ (ρ i) k,hR,fun i hi => ?_,by simp,fun β' hβ => ?_,hfr,fun i X hi hm k hk => ?_,fun i X hi k hk => ?_⟩
  · show β i = β₂ (ρ i)
    rw [hρ i hi]
    exact hag i hi
  · rw [List.length_append] at hβ
    have e1 : ∀ c,within.withinL (bs.length + Xs.length) c = true → (renL ρ c).map (conc β₂) = c.map (conc β') := fun c hc => by
      rw [← concL_map,← concL_map,concL_ren]
      exact concL_within _ c hc _ _ hβ
    have hB : Agr bs.length β₂ β' := fun i hi => by
      have : β₂ (ρ i) = β' i := hβ i (by omega)
      rw [← this,hρ i hi]
    refine ⟨by rw [he,conc_ren]; rw [conc_within _ r2 hw _ _ hβ],⟨fun i X hi => ?_,fun i X hi k hk => ?_,fun i j X Y hi hj hij hm k hk hk2 => ?_⟩⟩
    · rcases low hi with ⟨h1,h2⟩ | ⟨h1,rfl | ⟨c,e,s,n,mm,rfl,h3,h4,h5⟩⟩
      · have g1 := (hbx β₂ hag).holds i X h2
        have g2 := (hbx β' (fun i hi => (hag i hi).trans (hB i hi))).holds i X h2
        have e : β₂ i = β' i := hB i h1
        have g3 := hb2.holds i X (old h2)
        rw [e] at g1 g3
        have g4 := res_agr g1 g2 g3
        by_cases hg : X = .gone
        · subst hg
          intro k hk
          exact hk.1 hi
        · have : (fun k => (bs ++ Xs)[i]? ≠ some .gone ∧ fp₂ (ρ i) k) = fp₂ i := by
            funext k
            rw [hρ i h1,hi]
            simp [hg]
          rw [this]
          exact g4
      · intro k hk
        exact hk.1 hi
      · have g3 := hb2.holds _ _ h4
        have hi2 : i < bs.length + Xs.length := by
          have := (List.getElem?_eq_some_iff.1 hi).1
          simpa using this
        have e : β₂ (ρ i) = β' i := hβ i hi2
        rw [e] at g3
        have : (fun k => (bs ++ Xs)[i]? ≠ some .gone ∧ fp₂ (ρ i) k) = fp₂ (ρ i) := by
          funext k
          rw [hi]
          simp
        rw [this]
        rcases g3 with ⟨k1,k2,k3,k4⟩ | ⟨k1,k2,k3,k4,k5,-,k7⟩
        · refine .inl ⟨k1,k2,?_,k4.1,fun e => by cases e⟩
          cases c with
          | nil => rfl
          | cons x r => simp [renL] at k3
        · refine .inr ⟨k1,k2,k3,?_,?_,(by simp),k7⟩
          · rw [renL_map,List.length_map] at k4
            exact k4
          · rw [e1 c h5] at k5
            exact k5
    · obtain ⟨X',hX'⟩ : ∃ X',bs'[ρ i]? = some X' := by
        have := (ng hi (fun e => hk.1 (e ▸ hi))).1
        cases hh : bs'[ρ i]? with
        | none => exact absurd hh this
        | some x => exact ⟨x,rfl⟩
      exact hb2.lt _ _ hX' k hk.2
    · have hgi : X ≠ .gone := fun e => hk.1 (e ▸ hi)
      have hgj : Y ≠ .gone := fun e => hk2.1 (e ▸ hj)
      rcases low hi with ⟨h1,h2⟩ | ⟨h1,rfl | ⟨c,e,s,n,mm,rfl,h3,h4,h5⟩⟩
      · rcases low hj with ⟨l1,l2⟩ | ⟨l1,rfl | ⟨c',e',s',n',mm',rfl,l3,l4,l5⟩⟩
        · have a1 := hk.2
          have a2 := hk2.2
          rw [hρ i h1] at a1
          rw [hρ j l1] at a2
          exact hb2.sep i j X Y (old h2) (old l2) hij hm k a1 a2
        · exact hgj rfl
        · have a1 := hk.2
          rw [hρ i h1] at a1
          have hm1 : X.mine = true := hm.resolve_right (by simp [Res.mine])
          exact hb2.sep i (ρ j) X _ (old h2) l4 (by omega) (.inl hm1) k a1 hk2.2
      · exact hgi rfl
      · rcases low hj with ⟨l1,l2⟩ | ⟨l1,rfl | ⟨c',e',s',n',mm',rfl,l3,l4,l5⟩⟩
        · have a2 := hk2.2
          rw [hρ j l1] at a2
          have hm1 : Y.mine = true := hm.resolve_left (by simp [Res.mine])
          exact hb2.sep (ρ i) j _ Y h4 (old l2) (by omega) (.inr hm1) k hk.2 a2
        · exact hgj rfl
        · rcases hm with hm | hm <;> simp [Res.mine] at hm
  · rcases low hi with ⟨h1,h2⟩ | ⟨h1,rfl | ⟨c,e,s,n,mm,rfl,h3,h4,h5⟩⟩
    · have a1 := hk.2
      rw [hρ i h1] at a1
      exact hmine i X (old h2) hm k a1
    · simp [Res.mine] at hm
    · simp [Res.mine] at hm
  · rcases low hi with ⟨h1,h2⟩ | ⟨h1,rfl | ⟨c,e,s,n,mm,rfl,h3,h4,h5⟩⟩
    · have a1 := hk.2
      rw [hρ i h1] at a1
      exact hfoot i X (old h2) k a1
    · exact absurd hi hk.1
    · exact hfoot _ _ h4 k hk.2
def dull : Res → Res
  | .own c e s n _ => .own c e s n false
  | r => r
def dimB (lo : Nat) (b : List Res) : List Res := b.take lo ++ (b.drop lo).map dull
theorem dimB_len (lo : Nat) (b : List Res) : (dimB lo b).length = b.length := by
  simp [dimB]; omega
theorem dimB_old {lo : Nat} {b : List Res} {k : Nat} (h : k < lo) (hl : lo ≤ b.length) : (dimB lo b)[k]? = b[k]? := by
  unfold dimB
  rw [List.getElem?_append_left (by simp; omega),List.getElem?_take]
  simp [h]
theorem dimB_at {lo : Nat} {b : List Res} {k : Nat} (h : lo ≤ k) {r : Res} (hr : b[k]? = some r) : (dimB lo b)[k]? = some (dull r) := by
  have hk := (List.getElem?_eq_some_iff.1 hr).1
  unfold dimB
  rw [List.getElem?_append_right (by simp; omega),List.getElem?_map,List.getElem?_drop,List.length_take,Nat.min_eq_left (by omega),show lo + (k - lo) = k by omega,hr]
  rfl
theorem dimB_dim {lo : Nat} {b : List Res} (hl : lo ≤ b.length) : Dim b (dimB lo b) := ⟨dimB_len lo b,fun i r hi => by
  have hil := (List.getElem?_eq_some_iff.1 hi).1
  rw [dimB_len] at hil
  have hb := List.getElem?_eq_getElem hil
  rcases Nat.lt_or_ge i lo with h | h
  · rw [dimB_old h hl] at hi
    exact .inl hi
  · rw [dimB_at h hb] at hi
    rw [hb]
    have hi := (Option.some.inj hi).symm
    cases hx : b[i] with
    | own c e s n m => rw [hx] at hi; exact .inr ⟨c,e,s,n,m,rfl,hi⟩
    | cells c T m => rw [hx] at hi; exact .inl (by rw [hi]; rfl)
    | ext R => rw [hx] at hi; exact .inl (by rw [hi]; rfl)
    | gone => rw [hx] at hi; exact .inl (by rw [hi]; rfl)⟩
theorem Kp.dimB {bs b : List Res} (h : Kp bs b) : Kp bs (dimB bs.length b) := ⟨by rw [dimB_len]; exact h.1,fun k hk => by rw [dimB_old hk h.1]; exact h.2 k hk⟩
theorem SC.dimAll (h : SC V f args bs (fun r b => bs.length ≤ b.length ∧ R r (dimB bs.length b))) : SC V f args bs R :=
  SC.dim (h.mono fun r b ⟨h1,h2⟩ => ⟨_,dimB_dim h1,h2⟩)
theorem app_at (b l : List Res) (k : Nat) : (b ++ l)[b.length + k]? = l[k]? := by
  rw [List.getElem?_append_right (by omega),Nat.add_sub_cancel_left]
theorem app_at0 (b l : List Res) : (b ++ l)[b.length]? = l[0]? := app_at b l 0
theorem app_set (b l : List Res) (k : Nat) (X : Res) : (b ++ l).set (b.length + k) X = b ++ l.set k X := by
  rw [List.set_append_right _ _ (by omega),Nat.add_sub_cancel_left]
theorem app_set0 (b l : List Res) (X : Res) : (b ++ l).set b.length X = b ++ l.set 0 X := app_set b l 0 X
def lawA := And.intro (And.intro (@app_at) (And.intro (@app_at0) (@app_set))) (And.intro (And.intro (@app_set0) (@List.append_assoc.{0})) (And.intro (And.intro (@List.cons_append.{0}) (@List.nil_append.{0})) (And.intro (And.intro (@List.length_append.{0}) (@List.length_cons.{0})) (And.intro (And.intro (@List.length_nil.{0}) (@Nat.zero_add)) (And.intro (And.intro (@List.set_cons_succ.{0}) (@List.set_cons_zero.{0})) (@Nat.add_assoc))))))
theorem outs1 {n : Nat} {b : List Res} (hn : n = b.length) (X : Res) : Outs [(n,0,0)] (b ++ [X]) b := by
  subst hn
  refine outs_of (fun j hj => ?_) (by simp)
  have h1 := hj _ List.mem_cons_self
  simp only at h1
  rcases Nat.lt_or_ge j b.length with h | h
  · rw [List.getElem?_append_left h]
  · rw [List.getElem?_eq_none (by simp; omega),List.getElem?_eq_none h]
theorem outs2 {n m : Nat} {b : List Res} (hn : n = b.length) (hm : m = b.length + 1) (X Y : Res) : Outs [(n,0,0),(m,0,0)] (b ++ [X,Y]) b := by
  subst hn hm
  refine outs_of (fun j hj => ?_) (by simp)
  have h1 := hj (b.length,0,0) (by simp)
  have h2 := hj (b.length + 1,0,0) (by simp)
  simp only at h1 h2
  rcases Nat.lt_or_ge j b.length with h | h
  · rw [List.getElem?_append_left h]
  · rw [List.getElem?_eq_none (by simp; omega),List.getElem?_eq_none h]
theorem app_atL {l1 : List Res} {n : Nat} (hn : l1.length = n) (l : List Res) (k : Nat) : (l1 ++ l)[n + k]? = l[k]? := by
  subst hn; exact app_at _ _ _
theorem app_setL {l1 : List Res} {i : Nat} (hi : i < l1.length) (l : List Res) (X : Res) : (l1 ++ l).set i X = l1.set i X ++ l := List.set_append_left _ _ hi
theorem get_setS {l1 : List Res} {i : Nat} (hi : i < l1.length) (X : Res) (l : List Res) : (l1.set i X ++ l)[i]? = some X := by
  rw [List.getElem?_append_left (by simpa using hi),List.getElem?_set_self hi]
theorem get_setN {l1 : List Res} {i j : Nat} {r : Res} (h : l1[j]? = some r) (hn : i ≠ j) (X : Res) : (l1.set i X)[j]? = some r := by
  rw [List.getElem?_set_ne hn]; exact h
theorem outs1L {n : Nat} {b : List Res} (l : List Res) (hn : n = b.length + l.length) (X : Res) : Outs [(n,0,0)] (b ++ (l ++ [X])) (b ++ l) := by
  rw [← List.append_assoc]
  exact outs1 (by simpa using hn) X
theorem outs2L {n m : Nat} {b : List Res} (l : List Res) (hn : n = b.length + l.length) (hm : m = b.length + l.length + 1) (X Y : Res) : Outs [(n,0,0),(m,0,0)] (b ++ (l ++ [X,Y])) (b ++ l) := by
  rw [← List.append_assoc]
  exact outs2 (by simpa using hn) (by simpa using hm) X Y
theorem regV_mkG {V : Cx} {E : Fin} {n f : Nat} {ops : Array Oper} {k : List Item} {σ : St} {t : OT} (J : St → Prop) (hok : OT.okT ops [] t = true) (h : ∀ (E' : Fin) (k' : List Item),vcS V n ⟨E'.rs,E'.K,E'.how,false⟩ f (.aops ops [] t :: .cut J :: k') σ) (h2 : ∀ σ',J σ' → vcS V n E f k σ') (hu : E.uni = false := by rfl) : regV V n E f ops k σ (.all t) := by
  obtain ⟨rs,K,how,u⟩ := E
  simp only at hu
  subst hu
  exact regV_mk J hok (h ⟨rs,K,how,false⟩ k) h2
end Vc
/- The walks of ref16: Text,with,With,some,Array,members. -/
set_option linter.all false
set_option maxRecDepth 20000
namespace Go.Proofs.YtejfjmcjicpodaaGreatDoor
open Go Vc Go.RowKit Wf
set_option linter.unusedSimpArgs false
theorem p_r16_Text (s : Bytes) : PC Tryz.V 52 [.str s] (.agg (tv ⟨5,s,.nils,.nils⟩)) := by
  refine pc_of 3000 Tryz.func52 rfl Tryz.ntmps52 Tryz.results52 Tryz.call52 (by simp) (by simp [flat,flat.flatL]) (by simp [flat,flat.flatL,tv]) ?_
  unfold tv
  simp only [lawG,↓Xn,↓Xo,↓Xg,↓Xd,↓Xe,↓Xf,Tryz.VΓ,Tryz.Γs,Xp,Xi,Nat.reduceAdd,Nat.reduceSub,Nat.reduceLT,Nat.reduceLeDiff,reduceIte,reduceCtorEq,Nat.reduceEqDiff,implies_true,forall_const,lawV]
def TvIn (m : Nat) (x : Tv) : Prop := Vc.within m x.xk = true ∧ Vc.within m x.xi = true ∧ one x.xk = true ∧ one x.xi = true
mutual
theorem within_up {m n : Nat} (h : m ≤ n) : ∀ {x : SV},Vc.within m x = true → Vc.within n x = true := fun {x} hx => by
  cases x <;> simp only [Vc.within,decide_eq_true_eq] at hx ⊢
  · omega
  · omega
  · omega
  · exact withinL_up h hx
  · exact withinL_up h hx
  · exact withinL_up h hx
  · exact withinL_up h hx
  · exact within_up h hx
theorem withinL_up {m n : Nat} (h : m ≤ n) : ∀ {l : List SV},within.withinL m l = true → within.withinL n l = true := fun {l} hx => by
  cases l with
  | nil => rfl
  | cons x r =>
    simp only [within.withinL,Bool.and_eq_true] at hx ⊢
    exact ⟨within_up h hx.1,withinL_up h hx.2⟩
end
theorem TvIn.up {m n : Nat} (h : m ≤ n) {x : Tv} (hx : TvIn m x) : TvIn n x := ⟨within_up h hx.1,within_up h hx.2.1,hx.2.2⟩
theorem TvIn.w {m : Nat} {x : Tv} (hx : TvIn m x) : within.withinL m (tv x) = true := by
  simp [within,within.withinL,tv,hx.1,hx.2.1]
theorem withinL_app {m : Nat} : ∀ (a b : List SV),within.withinL m (a ++ b) = (within.withinL m a && within.withinL m b)
  | [],b => by simp [within.withinL]
  | x :: a,b => by simp [within.withinL,withinL_app a b,Bool.and_assoc]
theorem TvIn.all {m : Nat} {L : List Tv} (h : ∀ x ∈ L,TvIn m x) : within.withinL m (L.flatMap tv) = true := by
  induction L with
  | nil => rfl
  | cons x r ih =>
    rw [List.flatMap_cons,withinL_app,(h x (by simp)).w,ih (fun y hy => h y (by simp [hy]))]
    rfl
theorem Rs.one {b : List Res} {x : SV} {L : List Bytes} (h : Rs b x L) : Vc.one x = true := by
  rcases h with ⟨rfl,-⟩ | ⟨j,rfl,h2⟩ <;> rfl
theorem Ri.one {b : List Res} {x : SV} {L : List Tv} (h : Ri b x L) : Vc.one x = true := by
  rcases h with ⟨rfl,-⟩ | ⟨j,rfl,h2⟩ <;> rfl
theorem str_in (m : Nat) (L : List Bytes) : within.withinL m (L.map SV.str) = true := by
  induction L with
  | nil => rfl
  | cons x r ih => simp [within.withinL,within,ih]
def Ob (b : List Res) (d n : Nat) (v : Tv) : Prop := v.k = 7 ∧ v.t = [] ∧ ∃ (K : List Bytes) (L : List Tv),Rs b v.xk K ∧ Ri b v.xi L ∧ K.length = L.length ∧ K.length ≤ n ∧ (∀ s ∈ K,s.length ≤ 20000) ∧ ∀ x ∈ L,Tr b d x
theorem Ob.ro {a b : List Res} (k : Ro a b) {d n : Nat} {v : Tv} : Ob a d n v → Ob b d n v
  | ⟨h1,h2,K,L,h3,h4,h5,h6,h7,h8⟩ => ⟨h1,h2,K,L,h3.ro k,h4.ro k,h5,h6,h7,fun x hx => (h8 x hx).ro k⟩
theorem Ob.zero (b : List Res) (d n : Nat) : Ob b d n ⟨7,[],.nils,.nils⟩ := ⟨rfl,rfl,[],[],.inl ⟨rfl,rfl⟩,.inl ⟨rfl,rfl⟩,rfl,by simp,by simp,by simp⟩
theorem Ob.up {b : List Res} {d n m : Nat} {v : Tv} (hm : n ≤ m) : Ob b d n v → Ob b d m v
  | ⟨h1,h2,K,L,h3,h4,h5,h6,h7,h8⟩ => ⟨h1,h2,K,L,h3,h4,h5,by omega,h7,h8⟩
theorem Ob.within {b : List Res} {d n : Nat} {v : Tv} : Ob b d n v → Vc.within b.length (.agg (tv v)) = true
  | ⟨_,_,_,_,h3,h4,_⟩ => by simp [Vc.within,Vc.within.withinL,tv,h3.within,h4.within]
def WithR (bs : List Res) (v x : Tv) (K : List Bytes) (L : List Tv) (key : Bytes) (r : SV) (b : List Res) : Prop := ∃ (q1 q2 : Nat) (m1 m2 : Bool),Kp bs b ∧ bs.length ≤ q1 ∧ bs.length ≤ q2 ∧ b[q1]? = some (.own ((K ++ [key]).map SV.str) 9 1 (K ++ [key]).length m1) ∧ b[q2]? = some (.own ((L ++ [x]).flatMap tv) 25 4 (L ++ [x]).length m2) ∧ r = .agg (tv ⟨v.k,v.t,.o q1 (K ++ [key]).length,.o q2 (L ++ [x]).length⟩)
theorem WithR.pick {bs : List Res} {v x : Tv} {K : List Bytes} {L : List Tv} {key : Bytes} (hx : TvIn bs.length x) (hLw : ∀ y ∈ L,TvIn bs.length y) {r : SV} {b : List Res} (h : WithR bs v x K L key r b) :
    ∃ (ρ : Nat → Nat) (Xs : List Res) (r2 : SV),Kp bs b ∧ (∀ k,k < bs.length → ρ k = k) ∧ (∀ q X,Xs[q]? = some X → Kept bs b ρ (bs.length + Xs.length) (bs.length + q) X) ∧ r = ren ρ r2 ∧ within (bs.length + Xs.length) r2 = true ∧ (r2 = .agg (tv ⟨v.k,v.t,.o bs.length (K ++ [key]).length,.o (bs.length + 1) (L ++ [x]).length⟩) ∧ bs ++ Xs = bs ++ [.own ((K ++ [key]).map SV.str) 9 1 (K ++ [key]).length false,.own ((L ++ [x]).flatMap tv) 25 4 (L ++ [x]).length false]) := by
  obtain ⟨q1,q2,m1,m2,hkp,h1,h2,h3,h4,rfl⟩ := h
  have hρ : ∀ k,k < bs.length → (fun i => if i = bs.length then q1 else if i = bs.length + 1 then q2 else i) k = k := fun k hk => by
    show (if k = bs.length then q1 else if k = bs.length + 1 then q2 else k) = k
    rw [if_neg (by omega),if_neg (by omega)]
  have w1 : within.withinL bs.length ((K ++ [key]).map SV.str) = true := str_in _ _
  have w2 : within.withinL bs.length ((L ++ [x]).flatMap tv) = true := by
    rw [List.flatMap_append,withinL_app,TvIn.all hLw]
    simpa [List.flatMap_cons] using hx.w
  refine ⟨fun i => if i = bs.length then q1 else if i = bs.length + 1 then q2 else i,[.own ((K ++ [key]).map SV.str) 9 1 (K ++ [key]).length false,.own ((L ++ [x]).flatMap tv) 25 4 (L ++ [x]).length false],_,hkp,hρ,?_,?_,?_,rfl,rfl⟩
  · rintro q X hq
    match q,hq with
    | 0,hq =>
      cases hq
      refine .inr ⟨_,_,_,_,m1,rfl,?_,?_,str_in _ _⟩
      · simpa using h1
      · rw [renL_within hρ _ w1]; simpa using h3
    | 1,hq =>
      cases hq
      refine .inr ⟨_,_,_,_,m2,rfl,?_,?_,?_⟩
      · simpa using h2
      · rw [renL_within hρ _ w2]; simpa using h4
      · refine TvIn.all (fun y hy => ?_)
        rcases List.mem_append.1 hy with hy | hy
        · exact (hLw y hy).up (by simp)
        · obtain rfl := List.mem_singleton.1 hy
          exact hx.up (by simp)
  · simp [ren,renL,tv]
  · simp [within,within.withinL,tv]
set_option maxHeartbeats 4000000 in
theorem sc_r16_with {bs : List Res} {v x : Tv} {K : List Bytes} {L : List Tv} (hk : Rs bs v.xk K) (hi : Ri bs v.xi L) (hK : K.length ≤ 1000) (hL : L.length ≤ 1000) (key : Bytes) (hx : TvIn bs.length x) (hLw : ∀ y ∈ L,TvIn bs.length y) :
    SC Tryz.V 80 [.agg (tv v),.str key,.agg (tv x)] bs (fun r b => r = .agg (tv ⟨v.k,v.t,.o bs.length (K ++ [key]).length,.o (bs.length + 1) (L ++ [x]).length⟩) ∧ b = bs ++ [.own ((K ++ [key]).map SV.str) 9 1 (K ++ [key]).length false,.own ((L ++ [x]).flatMap tv) 25 4 (L ++ [x]).length false]) := by
  obtain ⟨k,t,xk,xi⟩ := v
  have hw1 := hk.within
  have hw2 := hi.within
  simp only at hk hi hw1 hw2
  obtain ⟨hx1,hx2,hx3,hx4⟩ := hx
  have hxo : (one x.xk && one x.xi) = true := by rw [hx3,hx4]; rfl
  refine SC.pick (SC.mono (R := WithR bs ⟨k,t,xk,xi⟩ x K L key) ?_ ?_)
  rotate_left
  · exact fun r b h => h.pick ⟨hx1,hx2,hx3,hx4⟩ hLw
  refine sc_of 3000 Tryz.func80 rfl Tryz.ntmps80 Tryz.results80 Tryz.call80 (by simp) (fun β β' hb => concL_within bs.length _ (by simp [within,within.withinL,tv,hw1,hw2,hx1,hx2]) β β' hb) ?_
  have hlk : (K.map SV.str).length = K.length := List.length_map ..
  have hll := tv_len L
  unfold tv
  rcases hk with ⟨rfl,rfl⟩ | ⟨jk,rfl,hk⟩ <;> rcases hi with ⟨rfl,rfl⟩ | ⟨ji,rfl,hi⟩
  · simp only [lawG,↓Xn,↓Xo,↓Xg,↓Xd,↓Xe,↓Xf,Tryz.VΓ,Tryz.Γs,Xp,Xi,Nat.reduceAdd,Nat.reduceSub,Nat.reduceLT,Nat.reduceLeDiff,reduceIte,reduceCtorEq,Nat.reduceEqDiff,implies_true,forall_const,lawV,lawA,beq_self_eq_true,bne_self_eq_false,Int.reduceBEq,Int.reduceBNe,Int.reduceLT,Int.reduceLE,hxo]
    refine ⟨by omega,⟨by unfold maxLen; omega,by omega⟩,by omega,⟨by unfold maxLen; omega,by omega⟩,?_,?_⟩
    · (refine OkD_ren (fun n => n - bs.length) ?_; simp only [List.map_cons,List.map_nil,renRk,renT,Nat.add_sub_cancel_left,Nat.sub_self,if_true]; exact OkD_fast (by kernel_rfl))
    · refine ⟨bs.length + 4,bs.length + 6,true,true,(Kp.refl bs).app _,by omega,by omega,?_,?_,by simp [tv]⟩
      · rw [app_at]; simp
      · rw [app_at]; simp [tv]
  · have hj : ji - bs.length = 0 := by have := (List.getElem?_eq_some_iff.1 hi).1; omega
    simp only [lawG,↓Xn,↓Xo,↓Xg,↓Xd,↓Xe,↓Xf,Tryz.VΓ,Tryz.Γs,Xp,Xi,Nat.reduceAdd,Nat.reduceSub,Nat.reduceLT,Nat.reduceLeDiff,reduceIte,reduceCtorEq,Nat.reduceEqDiff,implies_true,forall_const,lawV,lawA,beq_self_eq_true,bne_self_eq_false,Int.reduceBEq,Int.reduceBNe,Int.reduceLT,Int.reduceLE,hxo,at_old hi]
    refine ⟨by omega,⟨by unfold maxLen; omega,by omega⟩,by omega,⟨by unfold maxLen; omega,by omega⟩,?_,?_⟩
    · (refine OkD_ren (fun n => n - bs.length) ?_; simp only [List.map_cons,List.map_nil,renRk,renT,Nat.add_sub_cancel_left,Nat.sub_self,hj]; exact OkD_fast (by kernel_rfl))
    · refine ⟨bs.length + 4,bs.length + 6,true,true,(Kp.refl bs).app _,by omega,by omega,?_,?_,by simp [tv]⟩
      · rw [app_at]; simp
      · rw [app_at]; simp [tv]
  · have hj2 : jk < bs.length := (List.getElem?_eq_some_iff.1 hk).1
    have n0 : ∀ q,(bs.length + q = jk) = False := fun q => eq_false (by omega)
    have n2 : (bs.length = jk) = False := eq_false (by omega)
    simp only [lawG,↓Xn,↓Xo,↓Xg,↓Xd,↓Xe,↓Xf,Tryz.VΓ,Tryz.Γs,Xp,Xi,Nat.reduceAdd,Nat.reduceSub,Nat.reduceLT,Nat.reduceLeDiff,reduceIte,reduceCtorEq,Nat.reduceEqDiff,implies_true,forall_const,lawV,lawA,beq_self_eq_true,bne_self_eq_false,Int.reduceBEq,Int.reduceBNe,Int.reduceLT,Int.reduceLE,hxo,at_old hk]
    refine ⟨by omega,⟨by unfold maxLen; omega,by omega⟩,by omega,⟨by unfold maxLen; omega,by omega⟩,?_,?_⟩
    · refine OkD_ren (fun n => if n = jk then 20 else n - bs.length) ?_
      simp only [List.map_cons,List.map_nil,renRk,renT,Nat.add_sub_cancel_left,Nat.sub_self,n0,n2,eq_self,if_true,if_false]
      exact OkD_fast (by kernel_rfl)
    · refine ⟨bs.length + 4,bs.length + 6,true,true,(Kp.refl bs).app _,by omega,by omega,?_,?_,by simp [tv]⟩
      · rw [app_at]; simp
      · rw [app_at]; simp [tv]
  · have hj : ji < bs.length := (List.getElem?_eq_some_iff.1 hi).1
    have hj2 : jk < bs.length := (List.getElem?_eq_some_iff.1 hk).1
    have hne : (ji = jk) = False := eq_false (by rintro rfl; rw [hi] at hk; simp at hk)
    have n0 : ∀ q,(bs.length + q = jk) = False := fun q => eq_false (by omega)
    have n1 : ∀ q,(bs.length + q = ji) = False := fun q => eq_false (by omega)
    have n2 : (bs.length = jk) = False := eq_false (by omega)
    have n3 : (bs.length = ji) = False := eq_false (by omega)
    simp only [lawG,↓Xn,↓Xo,↓Xg,↓Xd,↓Xe,↓Xf,Tryz.VΓ,Tryz.Γs,Xp,Xi,Nat.reduceAdd,Nat.reduceSub,Nat.reduceLT,Nat.reduceLeDiff,reduceIte,reduceCtorEq,Nat.reduceEqDiff,implies_true,forall_const,lawV,lawA,beq_self_eq_true,bne_self_eq_false,Int.reduceBEq,Int.reduceBNe,Int.reduceLT,Int.reduceLE,hxo,at_old hi,at_old hk]
    refine ⟨by omega,⟨by unfold maxLen; omega,by omega⟩,by omega,⟨by unfold maxLen; omega,by omega⟩,?_,?_⟩
    · refine OkD_ren (fun n => if n = jk then 20 else if n = ji then 21 else n - bs.length) ?_
      simp only [List.map_cons,List.map_nil,renRk,renT,Nat.add_sub_cancel_left,Nat.sub_self,n0,n1,n2,n3,hne,eq_self,if_true,if_false]
      exact OkD_fast (by kernel_rfl)
    · refine ⟨bs.length + 4,bs.length + 6,true,true,(Kp.refl bs).app _,by omega,by omega,?_,?_,by simp [tv]⟩
      · rw [app_at]; simp
      · rw [app_at]; simp [tv]
end Go.Proofs.YtejfjmcjicpodaaGreatDoor
/- Trees of JSON values,exactly. -/
set_option linter.all false
set_option maxRecDepth 20000
namespace Go.Proofs.YtejfjmcjicpodaaGreatDoor
open Go Vc Go.RowKit Wf
set_option linter.unusedSimpArgs false
inductive Jv where
  | mk (k : Int) (t : Bytes) (K : List Bytes) (L : List Jv)
def Jv.k : Jv → Int
  | .mk k _ _ _ => k
def Jv.t : Jv → Bytes
  | .mk _ t _ _ => t
def Jv.K : Jv → List Bytes
  | .mk _ _ K _ => K
def Jv.L : Jv → List Jv
  | .mk _ _ _ L => L
def Jv.zero : Jv := .mk 0 [] [] []
def Jv.str (s : Bytes) : Jv := .mk 5 s [] []
mutual
def TJ (b : List Res) : Jv → Tv → Prop
  | .mk k t K L,v => v.k = k ∧ v.t = t ∧ t.length ≤ 140737488355328 ∧ Rs b v.xk K ∧ K.length ≤ 9223372036854775807 ∧ (∀ s ∈ K,s.length ≤ 140737488355328) ∧ L.length ≤ 9223372036854775807 ∧ ∃ Ls,Ri b v.xi Ls ∧ TJs b L Ls
def TJs (b : List Res) : List Jv → List Tv → Prop
  | [],Ls => Ls = []
  | j :: L,Ls => ∃ v r,Ls = v :: r ∧ TJ b j v ∧ TJs b L r
end
theorem TJ.un {b : List Res} : ∀ {j : Jv} {v : Tv},TJ b j v → v.k = j.k ∧ v.t = j.t ∧ j.t.length ≤ 140737488355328 ∧ Rs b v.xk j.K ∧ j.K.length ≤ 9223372036854775807 ∧ (∀ s ∈ j.K,s.length ≤ 140737488355328) ∧ j.L.length ≤ 9223372036854775807 ∧ ∃ Ls,Ri b v.xi Ls ∧ TJs b j.L Ls
  | .mk _ _ _ _,_,h => by rw [TJ] at h; exact h
theorem TJ.mk' {b : List Res} : ∀ {j : Jv} {v : Tv},v.k = j.k → v.t = j.t → j.t.length ≤ 140737488355328 → Rs b v.xk j.K → j.K.length ≤ 9223372036854775807 → (∀ s ∈ j.K,s.length ≤ 140737488355328) → j.L.length ≤ 9223372036854775807 → (∃ Ls,Ri b v.xi Ls ∧ TJs b j.L Ls) → TJ b j v
  | .mk _ _ _ _,_,h1,h2,h3,h4,h5,h6,h7,h8 => by rw [TJ]; exact ⟨h1,h2,h3,h4,h5,h6,h7,h8⟩
theorem TJs.len {b : List Res} : ∀ {L : List Jv} {Ls : List Tv},TJs b L Ls → Ls.length = L.length
  | [],_,h => by rw [TJs] at h; subst h; rfl
  | _ :: L,_,h => by
    rw [TJs] at h
    obtain ⟨v,r,rfl,-,h2⟩ := h
    simp [TJs.len h2]
theorem TJs.at {b : List Res} : ∀ {L : List Jv} {Ls : List Tv} (_ : TJs b L Ls) (k : Nat) (h : k < L.length) (h' : k < Ls.length),TJ b L[k] Ls[k]
  | [],_,_,_,h,_ => by simp at h
  | _ :: L,_,h,k,hk,hk' => by
    rw [TJs] at h
    obtain ⟨v,r,rfl,h1,h2⟩ := h
    cases k with
    | zero => exact h1
    | succ k => exact TJs.at h2 k (by simpa using hk) (by simpa using hk')
theorem TJs.of {b : List Res} : ∀ {L : List Jv} {Ls : List Tv},Ls.length = L.length → (∀ (k : Nat) (h : k < L.length) (h' : k < Ls.length),TJ b L[k] Ls[k]) → TJs b L Ls
  | [],Ls,h,_ => by rw [TJs]; exact List.length_eq_zero_iff.1 h
  | j :: L,[],h,_ => by simp at h
  | j :: L,v :: r,h,k => by
    rw [TJs]
    exact ⟨v,r,rfl,k 0 (by simp) (by simp),TJs.of (by simpa using h) fun q h1 h2 => k (q + 1) (by simpa using h1) (by simpa using h2)⟩
mutual
theorem TJ.ro {a b : List Res} (k : Ro a b) : ∀ {j : Jv} {v : Tv},TJ a j v → TJ b j v
  | .mk _ _ _ L,v,h => by
    rw [TJ] at h ⊢
    obtain ⟨h1,h2,h3,h4,h5,h6,h7,Ls,h8,h9⟩ := h
    exact ⟨h1,h2,h3,h4.ro k,h5,h6,h7,Ls,h8.ro k,TJs.ro k h9⟩
theorem TJs.ro {a b : List Res} (k : Ro a b) : ∀ {L : List Jv} {Ls : List Tv},TJs a L Ls → TJs b L Ls
  | [],_,h => by rw [TJs] at h ⊢; exact h
  | j :: L,_,h => by
    rw [TJs] at h ⊢
    obtain ⟨v,r,h1,h2,h3⟩ := h
    exact ⟨v,r,h1,TJ.ro k h2,TJs.ro k h3⟩
end
theorem TJ.tin {b : List Res} {j : Jv} {v : Tv} (h : TJ b j v) : TvIn b.length v := by
  obtain ⟨-,-,-,h3,-,-,-,Ls,h4,-⟩ := h.un
  exact ⟨h3.within,h4.within,h3.one,h4.one⟩
theorem TJs.tin {b : List Res} {L : List Jv} {Ls : List Tv} (h : TJs b L Ls) : ∀ v ∈ Ls,TvIn b.length v := fun v hv => by
  obtain ⟨k,hk,rfl⟩ := List.mem_iff_getElem.1 hv
  exact (h.at k (by rw [← h.len]; exact hk) hk).tin
theorem TJs.app {b : List Res} {L L2 : List Jv} {Ls Ls2 : List Tv} (h : TJs b L Ls) (h2 : TJs b L2 Ls2) : TJs b (L ++ L2) (Ls ++ Ls2) := by
  induction L generalizing Ls with
  | nil => rw [TJs] at h; subst h; exact h2
  | cons j L ih =>
    rw [TJs] at h
    obtain ⟨v,r,rfl,h3,h4⟩ := h
    rw [List.cons_append,TJs]
    exact ⟨v,r ++ Ls2,rfl,h3,ih h4⟩
theorem TJ.zero (b : List Res) : TJ b Jv.zero ⟨0,[],.nils,.nils⟩ := TJ.mk' rfl rfl (by simp [Jv.zero,Jv.t]) (.inl ⟨rfl,rfl⟩) (by simp [Jv.zero,Jv.K]) (by simp [Jv.zero,Jv.K]) (by simp [Jv.zero,Jv.L]) ⟨[],.inl ⟨rfl,rfl⟩,by rw [Jv.zero,Jv.L,TJs]⟩
theorem TJ.text (b : List Res) (s : Bytes) (hs : s.length ≤ 140737488355328) : TJ b (Jv.str s) ⟨5,s,.nils,.nils⟩ := TJ.mk' rfl rfl hs (.inl ⟨rfl,rfl⟩) (by simp [Jv.str,Jv.K]) (by simp [Jv.str,Jv.K]) (by simp [Jv.str,Jv.L]) ⟨[],.inl ⟨rfl,rfl⟩,by rw [Jv.str,Jv.L,TJs]⟩
def getK (key : Bytes) : List Bytes → List Jv → Option Jv
  | k :: K,x :: L => if k = key then some x else getK key K L
  | _,_ => none
def Jv.get (j : Jv) (key : Bytes) : Option Jv := if j.k = 7 then getK key j.K j.L else none
end Go.Proofs.YtejfjmcjicpodaaGreatDoor
/- What comes back,by new names,where one box of the caller's was changed. -/
set_option linter.all false
namespace Vc
open Go Go.RowKit Wf
def KpP (p : Nat) (c : List SV) (T : TypeId) (m : Bool) (bs b : List Res) : Prop := bs.length ≤ b.length ∧ (∀ k,k < bs.length → k ≠ p → b[k]? = bs[k]?) ∧ b[p]? = some (.cells c T m)
theorem KpP.of {p : Nat} {c : List SV} {T : TypeId} {m : Bool} {bs b : List Res} (hp : bs[p]? = some (.cells c T m)) (h : Kp bs b) : KpP p c T m bs b := ⟨h.1,fun k hk _ => h.2 k hk,h.at hp⟩
theorem KpP.set {p : Nat} {c : List SV} {T : TypeId} {m : Bool} {bs b : List Res} (h : KpP p c T m bs b) (c' : List SV) (T' : TypeId) (m' : Bool) : KpP p c' T' m' bs (b.set p (.cells c' T' m')) := ⟨by simpa using h.1,fun k hk hn => by rw [List.getElem?_set_ne (fun e => hn e.symm)]; exact h.2.1 k hk hn,List.getElem?_set_self (List.getElem?_eq_some_iff.1 h.2.2).1⟩
theorem KpP.setN {p : Nat} {c : List SV} {T : TypeId} {m : Bool} {bs b : List Res} (h : KpP p c T m bs b) {i : Nat} (hi : bs.length ≤ i) (hip : i ≠ p) (X : Res) : KpP p c T m bs (b.set i X) := ⟨by simpa using h.1,fun k hk hn => by rw [List.getElem?_set_ne (by omega)]; exact h.2.1 k hk hn,by rw [List.getElem?_set_ne hip]; exact h.2.2⟩
theorem KpP.trans {p : Nat} {c c' : List SV} {T T' : TypeId} {m m' : Bool} {bs b b' : List Res} (h : KpP p c T m bs b) (k : KpP p c' T' m' b b') : KpP p c' T' m' bs b' := ⟨Nat.le_trans h.1 k.1,fun q hq hn => (k.2.1 q (Nat.lt_of_lt_of_le hq h.1) hn).trans (h.2.1 q hq hn),k.2.2⟩
theorem KpP.kp {p : Nat} {c : List SV} {T : TypeId} {m : Bool} {bs b b' : List Res} (h : KpP p c T m bs b) (k : Kp b b') : KpP p c T m bs b' := ⟨Nat.le_trans h.1 k.1,fun q hq hn => (k.2 q (Nat.lt_of_lt_of_le hq h.1)).trans (h.2.1 q hq hn),k.at h.2.2⟩
theorem KpP.at {p : Nat} {c : List SV} {T : TypeId} {m : Bool} {bs b : List Res} (h : KpP p c T m bs b) {k : Nat} {r : Res} (hk : bs[k]? = some r) (hn : k ≠ p) : b[k]? = some r := (h.2.1 k (List.getElem?_eq_some_iff.1 hk).1 hn).trans hk
theorem KpP.dimB {p : Nat} {c : List SV} {T : TypeId} {m : Bool} {bs b : List Res} (h : KpP p c T m bs b) (hp : p < bs.length) : KpP p c T m bs (dimB bs.length b) := ⟨by rw [dimB_len]; exact h.1,fun k hk hn => by rw [dimB_old hk h.1]; exact h.2.1 k hk hn,by rw [dimB_old hp h.1]; exact h.2.2⟩
mutual
theorem flat_in (m : Nat) (x : SV) (h : flat x = true) : within m x = true := by
  cases x <;> simp only [flat,Bool.false_eq_true] at h <;> simp only [within]
  · exact flatL_in m _ h
  · exact flatL_in m _ h
  · exact flatL_in m _ h
  · exact flatL_in m _ h
  · exact flat_in m _ h
theorem flatL_in (m : Nat) (l : List SV) (h : flat.flatL l = true) : within.withinL m l = true := by
  cases l with
  | nil => rfl
  | cons x r =>
    simp only [flat.flatL,Bool.and_eq_true] at h
    simp only [within.withinL]
    rw [flat_in m x h.1,flatL_in m r h.2]
    rfl
end
variable {V : Cx} {f : FuncId} {args : List SV} {bs : List Res} {R : SV → List Res → Prop}
end Vc
/- The walks of jsondoc.Get and ref14.Get,exactly. -/
set_option linter.all false
set_option maxRecDepth 20000
namespace Go.Proofs.YtejfjmcjicpodaaGreatDoor
open Go Vc Go.RowKit Wf
set_option linter.unusedSimpArgs false
def Jv.at (v : Jv) (key : Bytes) : Jv := (v.get key).getD Jv.zero
theorem Rs.len' {b : List Res} {x : SV} {L : List Bytes} (h : Rs b x L) (e : TypeId) : lenS (.slice e) x = some (.int .i64 L.length) := by
  rcases h with ⟨rfl,rfl⟩ | ⟨j,rfl,-⟩ <;> rfl
theorem Ri.len {b : List Res} {x : SV} {L : List Tv} (h : Ri b x L) (e : TypeId) : lenS (.slice e) x = some (.int .i64 L.length) := by
  rcases h with ⟨rfl,rfl⟩ | ⟨j,rfl,-⟩ <;> rfl
end Go.Proofs.YtejfjmcjicpodaaGreatDoor
/- Plain laws: hosts,URIs,canonical strings,URLs. -/
set_option linter.all false
namespace Wf
open Go Go.RowKit
theorem lowerC_all (c : UInt8) : lowerC (lowerC c) = lowerC c ∧ ldh (lowerC c) = ldh c ∧ isDigit (lowerC c) = isDigit c ∧ (lowerC c == 45) = (c == 45) ∧ (lowerC c == 46) = (c == 46) ∧ (lowerC c == 58) = (c == 58) ∧ (isDigit c = true → lowerC c = c) := by
  have h := all256 (p := fun c => decide (lowerC (lowerC c) = lowerC c ∧ ldh (lowerC c) = ldh c ∧ isDigit (lowerC c) = isDigit c ∧ (lowerC c == 45) = (c == 45) ∧ (lowerC c == 46) = (c == 46) ∧ (lowerC c == 58) = (c == 58) ∧ (isDigit c = true → lowerC c = c))) (by decide +kernel) c
  exact of_decide_eq_true h
theorem lower_lower (s : Bytes) : lower (lower s) = lower s := by
  unfold lower; rw [List.map_map]; apply List.map_congr_left; intro c _; exact (lowerC_all c).1
theorem lower_length (s : Bytes) : (lower s).length = s.length := by unfold lower; simp
theorem lower_isEmpty (s : Bytes) : (lower s).isEmpty = s.isEmpty := by unfold lower; cases s <;> rfl
theorem lower_all {p : UInt8 → Bool} (hp : ∀ c,p (lowerC c) = p c) (s : Bytes) : (lower s).all p = s.all p := by
  unfold lower; rw [List.all_map]; congr 1; funext c; exact hp c
theorem lower_digits {s : Bytes} (h : s.all isDigit = true) : lower s = s := by
  unfold lower
  rw [List.all_eq_true] at h
  conv => rhs; rw [← List.map_id s]
  apply List.map_congr_left; intro c hc; exact (lowerC_all c).2.2.2.2.2.2 (h c hc)
theorem labelOk_lower (s : Bytes) : labelOk (lower s) = labelOk s := by
  unfold labelOk
  rw [lower_isEmpty,lower_length,lower_all (fun c => (lowerC_all c).2.1)]
  have h1 : ((lower s).head? == some 45) = (s.head? == some 45) := by
    unfold lower; rw [List.head?_map]; cases s.head? with
    | none => rfl
    | some c => simpa using (lowerC_all c).2.2.2.1
  have h2 : ((lower s).getLast? == some 45) = (s.getLast? == some 45) := by
    unfold lower; rw [List.getLast?_map]; cases s.getLast? with
    | none => rfl
    | some c => simpa using (lowerC_all c).2.2.2.1
  rw [h1,h2]
theorem digitsOk_lower (s : Bytes) : digitsOk (lower s) = digitsOk s := by
  unfold digitsOk; rw [lower_isEmpty,lower_all (fun c => (lowerC_all c).2.2.1)]
theorem splitC_lower (s : Bytes) : splitC 46 (lower s) = (splitC 46 s).map lower := by
  induction s with
  | nil => rfl
  | cons x r ih =>
    have hx := (lowerC_all x).2.2.2.2.1
    rw [show lower (x :: r) = lowerC x :: lower r from rfl,splitC,splitC,hx,ih]
    cases x == 46
    · simp only [Bool.false_eq_true,if_false]
      cases splitC 46 r <;> rfl
    · rfl
theorem numStrict_lower (m : Nat) (s : Bytes) : numStrict m (lower s) = numStrict m s := by
  cases h : s.all isDigit
  · have hd : digitsOk s = false := by unfold digitsOk; simp [h]
    have hl : (lower s).all isDigit = false := by rw [lower_all (fun c => (lowerC_all c).2.2.1),h]
    unfold numStrict numParse
    rw [digitsOk_lower,hd,hl,h,lower_isEmpty]
    simp
  · rw [lower_digits h]
theorem octetOk_lower (s : Bytes) : octetOk (lower s) = octetOk s := by unfold octetOk; rw [numStrict_lower]
theorem ipv4_lower (s : Bytes) : ipv4 (lower s) = ipv4 s := by
  unfold ipv4
  rw [splitC_lower,List.length_map,List.all_map]
  congr 2; funext x; exact octetOk_lower x
theorem nameL_lower (l : List Bytes) : nameL (l.map lower) = nameL l := by
  induction l with
  | nil => rfl
  | cons x r ih =>
    cases r with
    | nil => simp only [List.map,nameL,labelOk_lower,digitsOk_lower]
    | cons y r => simp only [List.map_cons,nameL,labelOk_lower] at ih ⊢; rw [ih]
theorem nameOk_lower (s : Bytes) : nameOk (lower s) = nameOk s := by unfold nameOk; rw [splitC_lower,nameL_lower]
theorem hostM_ok {s x : Bytes} (h : hostM s = (x,0)) : x = lower s ∧ x.length ≤ 253 ∧ hostM x = (x,0) := by
  unfold hostM at h
  cases h1 : s.isEmpty
  · rw [h1] at h
    by_cases h2 : 253 < s.length
    · simp [h2] at h
    · cases h3 : (!ipv4 s && !nameOk s)
      · simp [h2,h3] at h
        subst h
        refine ⟨rfl,by rw [lower_length]; omega,?_⟩
        unfold hostM
        rw [lower_isEmpty,lower_length,ipv4_lower,nameOk_lower,h1,h3,lower_lower]
        simp [h2]
      · simp [h2,h3] at h
  · rw [h1] at h; simp at h
theorem pre_lower (s : Bytes) : pre (· == 58) (lower s) = pre (· == 58) s := by
  induction s with
  | nil => rfl
  | cons x r ih =>
    rw [show lower (x :: r) = lowerC x :: lower r from rfl,pre_cons,pre_cons,ih,(lowerC_all x).2.2.2.2.2.1]
theorem pre_take (p : UInt8 → Bool) (s : Bytes) : pre p (s.take (pre p s)) = (s.take (pre p s)).length := by
  induction s with
  | nil => rfl
  | cons x r ih =>
    rw [pre_cons]
    cases hx : p x
    · simp [pre_cons,hx]
      have := ih; simp at this; omega
    · rfl
theorem cutC_fst (c : UInt8) (s : Bytes) : pre (· == c) (cutC c s).1 = (cutC c s).1.length := by
  unfold cutC
  by_cases h : pre (· == c) s < s.length
  · rw [if_pos h]; exact pre_take _ s
  · rw [if_neg h]; have := pre_le (· == c) s; show pre (· == c) s = s.length; omega
theorem cutC_none {c : UInt8} {s : Bytes} (h : pre (· == c) s = s.length) : cutC c s = (s,[],false) := by
  unfold cutC; rw [if_neg (by omega)]
theorem pre_app {p : UInt8 → Bool} {x : Bytes} (h : pre p x = x.length) (c : UInt8) (r : Bytes) (hc : p c = true) : pre p (x ++ c :: r) = x.length := by
  induction x with
  | nil => simp [pre_cons,hc]
  | cons y x ih =>
    rw [pre_cons] at h
    cases hy : p y
    · rw [hy] at h; simp at h
      simp [pre_cons,hy,ih h]
    · rw [hy] at h; simp at h
theorem cutC_some {c : UInt8} {x : Bytes} (h : pre (· == c) x = x.length) (r : Bytes) : cutC c (x ++ c :: r) = (x,r,true) := by
  unfold cutC
  rw [pre_app h c r (by simp),if_pos (by simp)]
  simp
theorem hexVal_dig {n : Nat} (h : n < 10) : hexVal (dig n) = n ∧ isDigit (dig n) = true ∧ (dig n = 48 → n = 0) := by
  have h := (by decide +kernel : ∀ n,n < 10 → hexVal (dig n) = n ∧ isDigit (dig n) = true ∧ (dig n = 48 → n = 0)) n h
  exact h
theorem numGo_app {b m : Nat} (r : Bytes) : ∀ (l : Bytes) {a v : Nat},numGo b m a l = (v,0) → numGo b m a (l ++ r) = numGo b m v r := by
  intro l
  induction l with
  | nil => intro a v h; simp [numGo] at h; rw [h]; rfl
  | cons c l ih =>
    intro a v h
    rw [numGo] at h
    rw [List.cons_append,numGo]
    by_cases hm : m < a * b + hexVal c
    · rw [if_pos hm] at h; simp at h
    · rw [if_neg hm] at h
      rw [if_neg hm]
      exact ih h
theorem decS_back (m : Nat) : ∀ (k n : Nat),n ≤ k → n ≤ m → numGo 10 m 0 (decS n) = (n,0) ∧ (decS n).all isDigit = true ∧ (0 < n → (decS n).head? ≠ some 48) := by
  intro k
  induction k with
  | zero =>
    intro n h _
    obtain rfl : n = 0 := by omega
    rw [decS_small (by omega)]
    exact ⟨by simp [numGo,dig,hexVal],by decide,fun h => by omega⟩
  | succ k ih =>
    intro n h hm
    by_cases hn : n < 10
    · rw [decS_small hn]
      obtain ⟨h1,h2,h3⟩ := hexVal_dig hn
      refine ⟨?_,by simp [h2],?_⟩
      · rw [numGo,h1,if_neg (by omega),numGo]; simp
      · intro h0 he; simp at he; exact absurd (h3 he) (by omega)
    · rw [decS_big hn]
      obtain ⟨h1,h2,h3⟩ := ih (n / 10) (by omega) (by omega)
      obtain ⟨g1,g2,g3⟩ := hexVal_dig (show n % 10 < 10 by omega)
      refine ⟨?_,by rw [List.all_append,h2]; simp [g2],?_⟩
      · rw [numGo_app _ _ h1,numGo,g1,if_neg (by omega),numGo]
        congr 1; omega
      · intro _
        have := decS_pos (n / 10)
        rw [List.head?_append]
        have h3 := h3 (by omega)
        cases hd : (decS (n / 10)).head? with
        | none => rw [List.head?_eq_none_iff] at hd; rw [hd] at this; simp at this
        | some c => rw [hd] at h3; simpa using h3
theorem portM_dec {n : Nat} (h0 : 0 < n) (h : n ≤ 65535) : portM (decS n) = ((n : Int),0) := by
  obtain ⟨h1,h2,h3⟩ := decS_back 65535 n n (by omega) h
  have hp := decS_pos n
  have hne : (decS n).isEmpty = false := by cases hd : decS n <;> simp [hd] at hp ⊢
  have hs : numStrict 65535 (decS n) = (n,0) := by
    unfold numStrict numParse
    rw [if_neg (fun hh => h3 h0 hh.2.2),hne,h2,h1]
    rfl
  unfold portM
  rw [hs]
  have : ¬ n = 0 := by omega
  simp [this]
theorem portM_ok {s : Bytes} {p : Int} (h : portM s = (p,0)) : 0 < p ∧ p ≤ 65535 := by
  have hle := numStrict_le 65535 s
  unfold portM at h
  split at h
  · simp at h
  · rename_i hc
    simp at h
    subst h
    omega
theorem hostPort_back {s x : Bytes} {p : Int} (h : hostPort s = ((x,p),0)) : hostPort (hostText x p) = ((x,p),0) ∧ hostM x = (x,0) ∧ p ≠ 443 ∧ x.length ≤ 253 ∧ 0 ≤ p ∧ p ≤ 65535 := by
  have hf := cutC_fst 58 s
  unfold hostPort at h
  generalize cutC 58 s = C at hf h
  obtain ⟨first,rest,colon⟩ := C
  simp only at hf h
  generalize hH : hostM first = H at h
  obtain ⟨y,e⟩ := H
  by_cases he : e = 0
  · subst he
    obtain ⟨hy,hlen,hback⟩ := hostM_ok hH
    have hpy : pre (· == 58) y = y.length := by rw [hy,pre_lower,lower_length]; exact hf
    have plain : hostPort (hostText y 0) = ((y,0),0) := by
      unfold hostText hostPort
      rw [if_pos rfl,cutC_none hpy,hback]; rfl
    cases colon
    · unfold hostPortOf at h
      simp at h
      obtain ⟨rfl,rfl⟩ := h
      exact ⟨plain,hback,by omega,hlen,by omega,by omega⟩
    · generalize hP : portM rest = P at h
      obtain ⟨q,f⟩ := P
      unfold hostPortOf at h
      by_cases hf0 : f = 0
      · subst hf0
        simp at h
        obtain ⟨rfl,h⟩ := h
        obtain ⟨q0,q1⟩ := portM_ok hP
        by_cases h443 : q = 443
        · rw [if_pos h443] at h
          subst h
          exact ⟨plain,hback,by omega,hlen,by omega,by omega⟩
        · rw [if_neg h443] at h
          subst h
          refine ⟨?_,hback,h443,hlen,by omega,q1⟩
          obtain ⟨n,rfl⟩ : ∃ n : Nat,q = n := ⟨q.toNat,by omega⟩
          unfold hostText hostPort
          rw [if_neg (by omega),if_neg (by omega)]
          have e : y ++ [58] ++ decS (n : Int).natAbs = y ++ 58 :: decS n := by simp
          rw [e,cutC_some hpy]
          simp only [hback,portM_dec (show 0 < n by omega) (show n ≤ 65535 by omega)]
          unfold hostPortOf
          simp [h443]
      · simp [hf0] at h
  · unfold hostPortOf at h
    simp [he] at h
end Wf
namespace Wf
open Go Go.RowKit
/-! paths that begin with a slash -/
end Wf
namespace Wf
open Go Go.RowKit
def Can (also s : Bytes) : Prop := ∃ l : List PU,s = l.flatMap PU.str ∧ ∀ x ∈ l,canU also x
theorem can_nil (also : Bytes) : Can also [] := ⟨[],rfl,by simp⟩
theorem can_app {also a b : Bytes} (ha : Can also a) (hb : Can also b) : Can also (a ++ b) := by
  obtain ⟨l,rfl,h1⟩ := ha
  obtain ⟨m,rfl,h2⟩ := hb
  exact ⟨l ++ m,by simp,fun x hx => by
    rcases List.mem_append.1 hx with h | h
    · exact h1 x h
    · exact h2 x h⟩
theorem can_one {also : Bytes} {c : UInt8} (h : keepB also c = true) (hc : c ≠ 37) : Can also [c] := ⟨[.lit c],rfl,fun x hx => by
  obtain rfl := List.mem_singleton.1 hx; exact ⟨h,hc⟩⟩
theorem can_split {also : Bytes} {c : UInt8} (hc : c ≠ 37) (hx : isHex c = false) : ∀ (l : List PU) (a b : Bytes),(∀ x ∈ l,canU also x) → a ++ c :: b = l.flatMap PU.str → Can also a ∧ Can also (c :: b)
  | [],a,b,_,e => by simp at e
  | .lit d :: l,[],b,h,e => ⟨can_nil _,_,e,h⟩
  | .lit d :: l,y :: a,b,h,e => by
    rw [List.flatMap_cons] at e
    simp only [PU.str,List.singleton_append,List.cons_append,List.cons.injEq] at e
    obtain ⟨rfl,e⟩ := e
    obtain ⟨h1,h2⟩ := can_split hc hx l a b (fun y hy => h y (List.mem_cons_of_mem _ hy)) e
    have hy := h _ List.mem_cons_self
    exact ⟨can_app (a := [y]) (can_one hy.1 hy.2) h1,h2⟩
  | .hex u v :: l,[],b,h,e => by
    rw [List.flatMap_cons] at e
    simp only [PU.str,List.nil_append,List.cons_append,List.cons.injEq] at e
    exact absurd e.1 hc
  | .hex u v :: l,[x],b,h,e => by
    rw [List.flatMap_cons] at e
    simp only [PU.str,List.nil_append,List.cons_append,List.cons.injEq] at e
    have := (h _ List.mem_cons_self).2.2.2.1
    rw [← e.2.1,hx] at this; cases this
  | .hex u v :: l,[x,y],b,h,e => by
    rw [List.flatMap_cons] at e
    simp only [PU.str,List.nil_append,List.cons_append,List.cons.injEq] at e
    have := (h _ List.mem_cons_self).2.2.2.2
    rw [← e.2.2.1,hx] at this; cases this
  | .hex u v :: l,x :: y :: z :: a,b,h,e => by
    rw [List.flatMap_cons] at e
    simp only [PU.str,List.nil_append,List.cons_append,List.cons.injEq] at e
    obtain ⟨rfl,rfl,rfl,e⟩ := e
    obtain ⟨h1,h2⟩ := can_split hc hx l a b (fun y hy => h y (List.mem_cons_of_mem _ hy)) e
    refine ⟨can_app (a := [37,y,z]) ⟨[.hex y z],rfl,fun x hx => ?_⟩ h1,h2⟩
    obtain rfl := List.mem_singleton.1 hx
    exact h _ List.mem_cons_self
  | .bad :: l,a,b,h,e => (h _ List.mem_cons_self).elim
theorem Can.split {also a b : Bytes} {c : UInt8} (hc : c ≠ 37) (hx : isHex c = false) (h : Can also (a ++ c :: b)) : Can also a ∧ Can also (c :: b) := by
  obtain ⟨l,e,h1⟩ := h
  exact can_split hc hx l a b h1 e
theorem can_bytes {also s : Bytes} (h : Can also s) : ∀ c ∈ s,keepB also c = true ∨ c = 37 ∨ isHex c = true := by
  obtain ⟨l,rfl,h1⟩ := h
  intro c hc
  obtain ⟨x,hx,hcx⟩ := List.mem_flatMap.1 hc
  have hk := h1 x hx
  cases x with
  | lit d =>
    obtain rfl := List.mem_singleton.1 hcx
    exact .inl hk.1
  | hex a b =>
    simp only [PU.str,List.mem_cons,List.not_mem_nil,or_false] at hcx
    rcases hcx with rfl | rfl | rfl
    · exact .inr (.inl rfl)
    · exact .inr (.inr hk.2.2.2.1)
    · exact .inr (.inr hk.2.2.2.2)
  | bad => exact hk.elim
/-! hosts -/
theorem mem_splitC (d : UInt8) : ∀ (n : Nat) (s : Bytes),s.length ≤ n → ∀ c ∈ s,c = d ∨ ∃ x ∈ splitC d s,c ∈ x
  | 0,s,h,c,hc => by
    obtain rfl := List.length_eq_zero_iff.1 (Nat.le_zero.1 h)
    simp at hc
  | n + 1,s,h,c,hc => by
    by_cases hp : pre (· == d) s < s.length
    · rw [splitC_hit hp]
      have e : s = s.take (pre (· == d) s) ++ d :: s.drop (pre (· == d) s + 1) := by
        have := pre_at hp
        simp only [beq_iff_eq] at this
        conv => lhs; rw [← List.take_append_drop (pre (· == d) s) s,List.drop_eq_getElem_cons hp,this]
      rw [e] at hc
      rcases List.mem_append.1 hc with h1 | h1
      · exact .inr ⟨_,List.mem_cons_self,h1⟩
      · rcases List.mem_cons.1 h1 with h2 | h2
        · exact .inl h2
        · rcases mem_splitC d n _ (by simp; omega) c h2 with h3 | ⟨x,h3,h4⟩
          · exact .inl h3
          · exact .inr ⟨x,List.mem_cons_of_mem _ h3,h4⟩
    · rw [splitC_miss hp]
      exact .inr ⟨s,List.mem_singleton.2 rfl,hc⟩
theorem octet_digits {s : Bytes} (h : octetOk s = true) : s.all isDigit = true := by
  unfold octetOk numStrict at h
  split at h
  · simp at h
  · have := (numParse_err_dig 255 s).1 (.inl (by simpa using h))
    unfold digitsOk at this
    simp only [Bool.and_eq_true] at this
    exact this.2
theorem nameL_mem : ∀ (l : List Bytes),nameL l = true → ∀ x ∈ l,labelOk x = true
  | [],_,x,h => by simp at h
  | [y],h,x,hx => by
    simp only [nameL,Bool.and_eq_true] at h
    obtain rfl := List.mem_singleton.1 hx
    exact h.1
  | y :: z :: r,h,x,hx => by
    simp only [nameL,Bool.and_eq_true] at h
    rcases List.mem_cons.1 hx with rfl | hx
    · exact h.1
    · exact nameL_mem (z :: r) h.2 x hx
theorem hostM_bytes {s x : Bytes} (h : hostM s = (x,0)) : ∀ c ∈ x,ldh c = true ∨ c = 46 := by
  have hx := (hostM_ok h).2.2
  clear h
  unfold hostM at hx
  split at hx
  · simp at hx
  split at hx
  · simp at hx
  split at hx
  · simp at hx
  · rename_i h3
    intro c hc
    rcases mem_splitC 46 _ x (Nat.le_refl _) c hc with h4 | ⟨y,h4,h5⟩
    · exact .inr h4
    · left
      cases hi : ipv4 x
      · have hn : nameOk x = true := by simpa [hi] using h3
        have := nameL_mem _ hn y h4
        unfold labelOk at this
        simp only [Bool.and_eq_true] at this
        exact List.all_eq_true.1 this.2 c h5
      · unfold ipv4 at hi
        simp only [Bool.and_eq_true] at hi
        have := octet_digits (List.all_eq_true.1 hi.2 y h4)
        have := List.all_eq_true.1 this c h5
        unfold ldh; rw [this]; simp
theorem decS_digits (n : Nat) : ∀ c ∈ decS n,isDigit c = true := fun c hc => List.all_eq_true.1 ((decS_back n n n (Nat.le_refl _) (Nat.le_refl _)).2.1) c hc
theorem hostPort_bytes {s x : Bytes} {p : Int} (h : hostPort s = ((x,p),0)) : ∀ c ∈ hostText x p,ldh c = true ∨ c = 46 ∨ c = 58 := by
  obtain ⟨-,h1,-,-,h2,-⟩ := hostPort_back h
  have hb := hostM_bytes h1
  unfold hostText
  split
  · intro c hc; exact (hb c hc).imp id .inl
  split
  · omega
  · intro c hc
    rcases List.mem_append.1 hc with hc | hc
    · rcases List.mem_append.1 hc with hc | hc
      · exact (hb c hc).imp id .inl
      · exact .inr (.inr (List.mem_singleton.1 hc))
    · left; unfold ldh; rw [decS_digits _ c hc]; simp
theorem pre_none {c : UInt8} {l : Bytes} (h : c ∉ l) : pre (· == c) l = l.length := by
  induction l with
  | nil => rfl
  | cons x l ih =>
    simp only [List.mem_cons,not_or] at h
    rw [pre_cons,if_neg (by simpa using fun e => h.1 e.symm),ih h.2]; rfl
end Wf
namespace Wf
open Go Go.RowKit
theorem split_join (u : Uri) (h1 : u.scheme = https) (h2 : u.hasScheme = true) (h3 : u.hasAuthority = true) (ha : ∀ c ∈ u.authority,c ≠ 47 ∧ c ≠ 63 ∧ c ≠ 35) (hp : ∃ r,u.path = 47 :: r) (hpb : ∀ c ∈ u.path,c ≠ 63 ∧ c ≠ 35) (hq : (35 : UInt8) ∉ u.query) (hq0 : u.hasQuery = false → u.query = []) (hf0 : u.hasFrag = false → u.fragment = []) (hl : (uriJoin u).length ≤ 16384) :
    uriSplit (uriJoin u) = (u,0) := by
  obtain ⟨sc,au,pa,qu,fr,b1,b2,b3,b4⟩ := u
  simp only at h1 h2 h3 ha hp hpb hq hq0 hf0
  subst h1 h2 h3
  have c1 : cutC 35 (uriJoin ⟨https,au,pa,qu,fr,true,true,b3,b4⟩) = (https ++ [58] ++ ([47,47] ++ au) ++ pa ++ (if b3 then [63] ++ qu else []),fr,b4) := by
    have hn : (35 : UInt8) ∉ https ++ [58] ++ ([47,47] ++ au) ++ pa ++ (if b3 then [63] ++ qu else []) := by
      simp only [List.mem_append,not_or]
      refine ⟨⟨⟨⟨by decide,by decide⟩,by decide,fun h => (ha _ h).2.2 rfl⟩,fun h => (hpb _ h).2 rfl⟩,?_⟩
      split
      · simp only [List.mem_append,not_or]; exact ⟨by decide,hq⟩
      · simp
    cases b4
    · have : uriJoin ⟨https,au,pa,qu,fr,true,true,b3,false⟩ = https ++ [58] ++ ([47,47] ++ au) ++ pa ++ (if b3 then [63] ++ qu else []) := by simp [uriJoin]
      rw [this,cutC_none (pre_none hn),hf0 rfl]
    · have : uriJoin ⟨https,au,pa,qu,fr,true,true,b3,true⟩ = (https ++ [58] ++ ([47,47] ++ au) ++ pa ++ (if b3 then [63] ++ qu else [])) ++ 35 :: fr := by simp [uriJoin]
      rw [this,cutC_some (pre_none hn)]
  have c2 : cutC 63 (https ++ [58] ++ ([47,47] ++ au) ++ pa ++ (if b3 then [63] ++ qu else [])) = (https ++ [58] ++ ([47,47] ++ au) ++ pa,qu,b3) := by
    have hn : (63 : UInt8) ∉ https ++ [58] ++ ([47,47] ++ au) ++ pa := by
      simp only [List.mem_append,not_or]
      exact ⟨⟨⟨by decide,by decide⟩,by decide,fun h => (ha _ h).2.1 rfl⟩,fun h => (hpb _ h).1 rfl⟩
    cases b3
    · rw [if_neg (by simp),List.append_nil,cutC_none (pre_none hn),hq0 rfl]
    · rw [if_pos rfl,List.singleton_append,cutC_some (pre_none hn)]
  unfold uriSplit
  rw [if_neg (by omega),c1]
  simp only
  rw [c2]
  simp only
  obtain ⟨r,rfl⟩ := hp
  have e : https ++ [58] ++ ([47,47] ++ au) ++ 47 :: r = 104 :: 116 :: 116 :: 112 :: 115 :: 58 :: 47 :: 47 :: (au ++ 47 :: r) := by simp [https]
  have p5 : pre colonSlash (104 :: 116 :: 116 :: 112 :: 115 :: 58 :: 47 :: 47 :: (au ++ 47 :: r)) = 5 := by
    simp only [pre_cons]
    rw [if_neg (by decide),if_neg (by decide),if_neg (by decide),if_neg (by decide),if_neg (by decide),if_pos (by decide)]
  have pa : pre (· == 47) (au ++ 47 :: r) = au.length := pre_app (pre_none (fun h => (ha _ h).1 rfl)) 47 r (by decide)
  rw [e]
  unfold splitRest
  rw [p5]
  simp only [List.drop_succ_cons,List.drop_zero,List.take_succ_cons,List.take_zero,List.head?_cons,if_true,authPath,pa,List.take_left,List.drop_left]
  rw [if_pos (by decide)]
  rfl
def urlUri (u : Url) : Uri := ⟨https,hostText u.host u.port,u.path,u.query,u.fragment,true,true,u.hasQuery,u.hasFrag⟩
theorem urlText_join (u : Url) : urlText u = uriJoin (urlUri u) := by
  unfold urlText uriJoin urlUri urlTarget
  cases u.hasQuery <;> simp [https]
structure CanUrl (u : Url) : Prop where
  host : hostPort (hostText u.host u.port) = ((u.host,u.port),0)
  path : Can inPath u.path
  slash : ∃ r,u.path = 47 :: r
  dots : removeDots u.path = u.path
  query : Can inQuery u.query
  frag : Can inQuery u.fragment
  noq : u.hasQuery = false → u.query = []
  nof : u.hasFrag = false → u.fragment = []
  len : (urlText u).length ≤ 4096
theorem host_no {x : Bytes} {p : Int} (h : hostPort (hostText x p) = ((x,p),0)) : ∀ c ∈ hostText x p,c ≠ 47 ∧ c ≠ 63 ∧ c ≠ 35 ∧ c ≠ 64 := by
  intro c hc
  have h1 := hostPort_bytes h c hc
  have := all256 (p := fun c => !(ldh c || c == 46 || c == 58) || (c != 47 && c != 63 && c != 35 && c != 64)) (by decide +kernel) c
  have h2 : (ldh c || c == 46 || c == 58) = true := by rcases h1 with h | rfl | rfl <;> simp [*]
  rw [h2] at this
  simpa [and_assoc] using this
theorem path_no {s : Bytes} (h : Can inPath s) : ∀ c ∈ s,c ≠ 63 ∧ c ≠ 35 := by
  intro c hc
  have h1 := can_bytes h c hc
  have := all256 (p := fun c => !(keepB inPath c || c == 37 || isHex c) || (c != 63 && c != 35)) (by decide +kernel) c
  have h2 : (keepB inPath c || c == 37 || isHex c) = true := by rcases h1 with h | rfl | h <;> simp [*]
  rw [h2] at this
  simpa using this
theorem query_no {s : Bytes} (h : Can inQuery s) : (35 : UInt8) ∉ s := by
  intro hc
  have := can_bytes h _ hc
  revert this; decide
theorem CanUrl.split {u : Url} (h : CanUrl u) : uriSplit (urlText u) = (urlUri u,0) := by
  rw [urlText_join]
  refine split_join (urlUri u) rfl rfl rfl (fun c hc => ?_) h.slash (path_no h.path) (query_no h.query) h.noq h.nof (by rw [← urlText_join]; have := h.len; omega)
  have := host_no h.host c hc
  exact ⟨this.1,this.2.1,this.2.2.1⟩
def Url.bare (u : Url) : Url := { u with fragment := [],hasFrag := false }
theorem CanUrl.bare {u : Url} (h : CanUrl u) : CanUrl u.bare :=
  ⟨h.host,h.path,h.slash,h.dots,h.query,can_nil _,h.noq,fun _ => rfl,by
    have := h.len
    unfold urlText at this ⊢
    unfold Url.bare urlTarget at *
    simp at this ⊢
    omega⟩
end Wf
/- Plain functions and laws of package acct. -/
set_option linter.all false
namespace Wf
open Go Go.RowKit
structure Acct where
  user : Bytes
  host : Bytes
  deriving DecidableEq
def Acct.none : Acct := ⟨[],[]⟩
end Wf
/- Plain functions and laws of package did. -/
set_option linter.all false
namespace Wf
open Go Go.RowKit
structure Did where
  method : Bytes
  id : Bytes
  deriving DecidableEq
def Did.none : Did := ⟨[],[]⟩
structure DidUrl where
  did : Did
  path : Bytes
  query : Bytes
  fragment : Bytes
  hasQuery : Bool
  hasFrag : Bool
  deriving DecidableEq
def DidUrl.none : DidUrl := ⟨Did.none,[],[],[],false,false⟩
def plainD (c : UInt8) : Bool := isAlpha c || isDigit c || ([46,45,95] : Bytes).contains c
def methodC (c : UInt8) : Bool := isDigit c || decide (97 ≤ c.toNat ∧ c.toNat ≤ 122)
def methodOk (s : Bytes) : Bool := !s.isEmpty && s.all methodC
def didB (c : UInt8) : Bytes := if plainD c then [c] else esc c
def didU : PU → Bytes
  | .lit c => [c]
  | .hex a b => didB (unhex a b)
  | .bad => []
def litOk : PU → Bool
  | .lit c => plainD c || c == 58
  | _ => true
def didCanon (s : Bytes) : Bytes × Int :=
  if PU.bad ∈ units s then ([],2) else if (units s).all litOk = false then ([],1) else ((units s).flatMap didU,0)
def didEnd (m : Bytes) (c : Bytes × Int) : Did × Int :=
  if c.2 ≠ 0 then (Did.none,c.2) else if c.1 = [] ∨ c.1.getLast? = some 58 then (Did.none,3) else (⟨m,c.1⟩,0)
def didRest (s : Bytes) : Did × Int :=
  if (cutC 58 s).2.2 = false then (Did.none,6)
  else if methodOk (cutC 58 s).1 = false then (Did.none,100)
  else didEnd (cutC 58 s).1 (didCanon (cutC 58 s).2.1)
def didS : Bytes := [100,105,100,58]
def didParse (s : Bytes) : Did × Int :=
  if 4096 < s.length then (Did.none,5)
  else if didS.isPrefixOf s = false then (Did.none,60)
  else didRest (s.drop 4)
def didText (d : Did) : Bytes := didS ++ d.method ++ [58] ++ d.id
def didUrlEnd (d : Did × Int) (p q f : Bytes × Int) (hq hf : Bool) : DidUrl × Int :=
  if d.2 ≠ 0 then (DidUrl.none,d.2)
  else if p.2 ≠ 0 then (DidUrl.none,p.2)
  else if q.2 ≠ 0 then (DidUrl.none,q.2)
  else if f.2 ≠ 0 then (DidUrl.none,f.2)
  else (⟨d.1,p.1,q.1,f.1,hq,hf⟩,0)
def didUrlOf (s q f : Bytes) (hq hf : Bool) : DidUrl × Int :=
  didUrlEnd (didParse (s.take (pre (· == 47) s))) (pctNorm inPath (s.drop (pre (· == 47) s))) (pctNorm inQuery q) (pctNorm inQuery f) hq hf
def didUrl (s : Bytes) : DidUrl × Int :=
  if 4096 < s.length then (DidUrl.none,5)
  else didUrlOf (cutC 63 (cutC 35 s).1).1 (cutC 63 (cutC 35 s).1).2.1 (cutC 35 s).2.1 (cutC 63 (cutC 35 s).1).2.2 (cutC 35 s).2.2
def didResolve (d : Did) (r : Bytes) : DidUrl × Int :=
  if didS.isPrefixOf r = true then didUrl r
  else if r = [] ∨ r.head? = some 47 ∨ r.head? = some 63 ∨ r.head? = some 35 then didUrl (didText d ++ r)
  else (DidUrl.none,6)
/-! units -/
theorem unitsGo_back : ∀ (f : Nat) (s : Bytes),s.length ≤ f → PU.bad ∉ unitsGo f s → (unitsGo f s).flatMap PU.str = s
  | 0,s,h,_ => by
    obtain rfl := List.length_eq_zero_iff.1 (Nat.le_zero.1 h)
    rfl
  | f + 1,[],_,_ => rfl
  | f + 1,c :: r,h,hb => by
    rw [unitsGo] at hb ⊢
    simp only [List.length_cons] at h
    split
    · rename_i hc
      rw [if_pos hc] at hb
      cases hp : hexPair r with
      | none => rw [hp] at hb; simp at hb
      | some x =>
        obtain ⟨a,b,r'⟩ := x
        rw [hp] at hb
        obtain ⟨rfl,-,-⟩ := hexPair_some hp
        simp only [List.mem_cons,reduceCtorEq,false_or] at hb
        simp only [List.length_cons] at h
        simp only [List.flatMap_cons,PU.str,unitsGo_back f r' (by omega) hb]
        rw [hc]; rfl
    · rename_i hc
      rw [if_neg hc] at hb
      simp only [List.mem_cons,reduceCtorEq,false_or] at hb
      simp only [List.flatMap_cons,PU.str,unitsGo_back f r (by omega) hb]
      rfl
theorem units_back {s : Bytes} (h : PU.bad ∉ units s) : (units s).flatMap PU.str = s := unitsGo_back _ s (Nat.le_refl _) h
theorem unitsGo_hex : ∀ (f : Nat) (s : Bytes) (a b : UInt8),PU.hex a b ∈ unitsGo f s → isHex a = true ∧ isHex b = true
  | 0,_,_,_,h => by simp [unitsGo] at h
  | _ + 1,[],_,_,h => by simp [unitsGo] at h
  | f + 1,d :: r,a,b,h => by
    rw [unitsGo] at h
    split at h
    · cases hp : hexPair r with
      | none => rw [hp] at h; simp at h
      | some x =>
        obtain ⟨a',b',r'⟩ := x
        rw [hp] at h
        obtain ⟨-,h2,h3⟩ := hexPair_some hp
        simp only [List.mem_cons,PU.hex.injEq] at h
        rcases h with ⟨rfl,rfl⟩ | h
        · exact ⟨h2,h3⟩
        · exact unitsGo_hex f _ a b h
    · simp only [List.mem_cons,reduceCtorEq,false_or] at h
      exact unitsGo_hex f _ a b h
theorem units_hexes {s : Bytes} {a b : UInt8} (h : PU.hex a b ∈ units s) : isHex a = true ∧ isHex b = true := unitsGo_hex _ s a b h
/-! canonical identifiers -/
end Wf
/- The models of DID documents: reading,writing,selecting; plain. -/
set_option linter.all false
namespace Go.Proofs.YtejfjmcjicpodaaGreatDoor
open Go Vc Go.RowKit Wf
set_option linter.unusedSimpArgs false
structure Svm where
  id : Bytes
  types : List Bytes
  ends : List Bytes
structure Mtm where
  id : Bytes
  type : Bytes
  ctrl : Bytes
structure Docm where
  id : Bytes
  also : List Bytes
  ctrl : List Bytes
  methods : List Mtm
  services : List Svm
def Docm.none : Docm := ⟨[],[],[],[],[]⟩
def arrL (m : Jv) : List Jv := if m.k = 6 then (if 64 < m.L.length then [] else m.L) else []
end Go.Proofs.YtejfjmcjicpodaaGreatDoor
/- Plain laws on DIDs: what the program and the reference compute for an identifier. -/
set_option linter.all false
namespace Wf
open Go Go.RowKit
def repB (c : UInt8) (new : Bytes) (d : UInt8) : Bytes := if d = c then new else [d]
theorem rep_none {c : UInt8} {new s : Bytes} (h : c ∉ s) : s.flatMap (repB c new) = s := by
  induction s with
  | nil => rfl
  | cons d s ih =>
    simp only [List.mem_cons,not_or] at h
    rw [List.flatMap_cons,ih h.2]
    unfold repB
    rw [if_neg (fun e => h.1 e.symm)]; rfl
theorem replaceK_one (c : UInt8) (new : Bytes) : ∀ (k : Nat) (s : Bytes),s.count c = k → Lib.replaceK [c] new k s = s.flatMap (repB c new) := by
  intro k
  induction k with
  | zero =>
    intro s h
    rw [rep_none (fun hm => by have := List.count_pos_iff.2 hm; omega)]; rfl
  | succ k ih =>
    intro s h
    by_cases hp : pre (· == c) s < s.length
    · have hk : Lib.index s [c] = (pre (· == c) s : Nat) := by rw [index_one,indexByte_pre,if_pos hp]
      rw [Lib.replaceK_hit [c] new k s _ hk]
      rw [count_pre hp] at h
      have e : s = s.take (pre (· == c) s) ++ c :: s.drop (pre (· == c) s + 1) := by
        have := pre_at hp
        simp only [beq_iff_eq] at this
        conv => lhs; rw [← List.take_append_drop (pre (· == c) s) s,List.drop_eq_getElem_cons hp,this]
      have hn : c ∉ s.take (pre (· == c) s) := by
        intro hm
        have h1 := pre_take (· == c) s
        obtain ⟨j,hj,e⟩ := List.getElem_of_mem hm
        have := pre_get (p := (· == c)) (l := s.take (pre (· == c) s)) (k := j) (by omega) hj
        rw [e] at this
        simp at this
      rw [show [c].length = 1 from rfl,ih _ (by omega)]
      conv => rhs; rw [e,List.flatMap_append,List.flatMap_cons,rep_none hn]
      simp [repB]
    · rw [count_zero hp] at h; omega
theorem replaceAll_one (c : UInt8) (new s : Bytes) (hne : ([c] == new) = false) : Lib.replaceAll s [c] new = s.flatMap (repB c new) := by
  unfold Lib.replaceAll Lib.replace Lib.replaceNum
  rw [hne,if_neg (by simp),if_pos (.inl (by omega)),Lib.count_one,replaceK_one c new _ s rfl]
/-! The program's way. -/
def nU : PU → Bytes
  | .lit c => [c]
  | .hex a b => normB (unhex a b)
  | .bad => []
def litKeep (also : Bytes) : PU → Bool
  | .lit c => keepB also c
  | _ => true
theorem normU_nobad (also : Bytes) : ∀ l : List PU,PU.bad ∉ l → normU also l = if l.all (litKeep also) then (l.flatMap nU,0) else ([],1)
  | [],_ => rfl
  | .bad :: r,h => by simp at h
  | .lit c :: r,h => by
    rw [normU,normU_nobad also r (by simpa using h),List.all_cons]
    cases hk : keepB also c
    · simp [litKeep,hk]
    · cases hr : r.all (litKeep also) <;> simp [litKeep,hk,comb,nU]
  | .hex a b :: r,h => by
    rw [normU,normU_nobad also r (by simpa using h),List.all_cons]
    cases hr : r.all (litKeep also) <;> simp [litKeep,comb,nU]
def progCanon (s : Bytes) : Bytes × Int :=
  if (pctDecode s).2 ≠ 0 then ([],(pctDecode s).2)
  else ((pctNorm [58] s).1.flatMap (repB 126 [37,55,69]),if (pctNorm [58] s).2 = 0 ∧ (126 : UInt8) ∈ s then 1 else (pctNorm [58] s).2)
theorem rep_norm (v : UInt8) : (normB v).flatMap (repB 126 [37,55,69]) = didB v := by
  have := all256 (p := fun v => (normB v).flatMap (repB 126 [37,55,69]) == didB v) (by decide +kernel) v
  simpa using this
theorem lit_mem {s : Bytes} {c : UInt8} (hb : PU.bad ∉ units s) (hc : c ≠ 37) (hx : isHex c = false) : c ∈ s ↔ PU.lit c ∈ units s := by
  have hs := units_back hb
  constructor
  · intro h
    rw [← hs] at h
    obtain ⟨u,hu,h⟩ := List.mem_flatMap.1 h
    cases u with
    | lit d => obtain rfl := List.mem_singleton.1 h; exact hu
    | hex a b =>
      have := units_hexes hu
      simp only [PU.str,List.mem_cons,List.not_mem_nil,or_false] at h
      rcases h with rfl | rfl | rfl
      · exact absurd rfl hc
      · rw [this.1] at hx; cases hx
      · rw [this.2] at hx; cases hx
    | bad => simp [PU.str] at h
  · intro h
    rw [← hs]
    exact List.mem_flatMap.2 ⟨_,h,List.mem_singleton.2 rfl⟩
theorem progCanon_eq (s : Bytes) (hl : s.length ≤ 16384) : (progCanon s).2 = (didCanon s).2 ∧ ((didCanon s).2 = 0 → (progCanon s).1 = (didCanon s).1) := by
  have d1 : pctDecode s = if PU.bad ∈ units s then ([],2) else ((units s).map PU.val,0) := if_neg (by omega)
  have d2 : pctNorm [58] s = normU [58] (units s) := by unfold pctNorm; first | rfl | exact if_neg (by omega)
  unfold progCanon didCanon
  rw [d1,d2]
  clear d1 d2
  by_cases hb : PU.bad ∈ units s
  · rw [if_pos hb,if_pos hb]; simp
  · rw [if_neg hb,if_neg hb,normU_nobad [58] _ hb]
    simp only [ne_eq,not_true,if_false]
    have key : ∀ c : UInt8,(plainD c || c == 58) = (keepB [58] c && c != 126) := fun c => by
      have := all256 (p := fun c => (plainD c || c == 58) == (keepB [58] c && c != 126)) (by decide +kernel) c
      simpa using this
    have h126 := lit_mem (s := s) (c := 126) hb (by decide) (by decide)
    generalize units s = l at *
    by_cases ha : l.all (litKeep [58]) = true
    · rw [if_pos ha]
      by_cases hm : PU.lit 126 ∈ l
      · have hno : l.all litOk = false := by
          rw [← Bool.not_eq_true]
          intro h
          have := List.all_eq_true.1 h _ hm
          revert this; decide
        rw [if_pos hno,if_pos ⟨rfl,h126.2 hm⟩]
        exact ⟨rfl,fun h => by simp at h⟩
      · have hyes : ¬ l.all litOk = false := by
          rw [Bool.not_eq_false]
          refine List.all_eq_true.2 fun u hu => ?_
          have := List.all_eq_true.1 ha u hu
          cases u with
          | lit c =>
            show (plainD c || c == 58) = true
            rw [key]
            have h1 : keepB [58] c = true := this
            rw [h1,Bool.true_and,bne_iff_ne]
            rintro rfl; exact hm hu
          | hex a b => rfl
          | bad => rfl
        rw [if_neg hyes,if_neg (fun k => hm (h126.1 k.2))]
        refine ⟨rfl,fun _ => ?_⟩
        show (l.flatMap nU).flatMap (repB 126 [37,55,69]) = l.flatMap didU
        clear hyes h126 ha
        induction l with
        | nil => rfl
        | cons u l ih =>
          rw [List.flatMap_cons,List.flatMap_append,List.flatMap_cons,ih (fun k => hb (List.mem_cons_of_mem _ k)) (fun k => hm (List.mem_cons_of_mem _ k)) rfl]
          congr 1
          cases u with
          | lit c =>
            have : c ≠ 126 := by rintro rfl; exact hm List.mem_cons_self
            show ([c] : Bytes).flatMap (repB 126 [37,55,69]) = [c]
            simp [repB,this]
          | hex a b => exact rep_norm _
          | bad => rfl
    · rw [if_neg ha]
      have hno : l.all litOk = false := by
        rw [← Bool.not_eq_true]
        intro h
        refine ha (List.all_eq_true.2 fun u hu => ?_)
        have := List.all_eq_true.1 h u hu
        cases u with
        | lit c =>
          have h1 : (plainD c || c == 58) = true := this
          rw [key,Bool.and_eq_true] at h1
          exact h1.1
        | hex a b => rfl
        | bad => rfl
      rw [if_pos hno,if_neg (by simp)]
      exact ⟨rfl,fun h => by simp at h⟩
/-! The reference's way: segment by segment. -/
end Wf
/- Plain: the parts of a DID URL,cut from the other end; and the segments of an ID. -/
set_option linter.all false
namespace Wf
open Go Go.RowKit
/-! The segments of an ID,as the reference takes them. -/
end Wf
/- The walks of package percent,and of the classes of bytes that it uses. -/
set_option linter.all false
set_option maxRecDepth 20000
namespace Go.Proofs.YtejfjmcjicpodaaGreatDoor
open Go Vc Go.RowKit Wf
theorem p_IsAlpha (c : UInt8) : PC Tryz.V 136 [.int .u8 c.toNat] (.bool (isAlpha c)) :=
  ⟨Tryz.call136,by simp [flat,flat.flatL],by simp [flat,flat.flatL],fun w _ => (ascii_IsAlpha c w).mono fun _ _ ⟨h,k⟩ => ⟨h,below_same k⟩⟩
theorem p_IsDigit (c : UInt8) : PC Tryz.V 91 [.int .u8 c.toNat] (.bool (isDigit c)) :=
  ⟨Tryz.call91,by simp [flat,flat.flatL],by simp [flat,flat.flatL],fun w _ => (ascii_IsDigit c w).mono fun _ _ ⟨h,k⟩ => ⟨h,below_same k⟩⟩
theorem p_IsHex (c : UInt8) : PC Tryz.V 123 [.int .u8 c.toNat] (.bool (isHex c)) :=
  ⟨Tryz.call123,by simp [flat,flat.flatL],by simp [flat,flat.flatL],fun w _ => (ascii_IsHex c w).mono fun _ _ ⟨h,k⟩ => ⟨h,below_same k⟩⟩
theorem idx_geq (set : Bytes) (c : UInt8) : decide (0 ≤ Lib.indexByte set c) = set.contains c := by
  rw [indexByte_pre]
  by_cases h : pre (· == c) set < set.length
  · rw [if_pos h]
    have := pre_at (p := (· == c)) h
    simp only [beq_iff_eq] at this
    simp only [Int.natCast_nonneg,decide_true]
    symm
    rw [List.contains_iff_mem,← this]
    exact List.getElem_mem h
  · rw [if_neg h]
    simp only [show ¬ (0 : Int) ≤ -1 by omega,decide_false]
    symm
    rw [← Bool.not_eq_true,List.contains_iff_mem]
    intro hm
    obtain ⟨k,hk,rfl⟩ := List.getElem_of_mem hm
    have h2 := pre_le (· == set[k]) set
    have := pre_get (p := (· == set[k])) (l := set) (k := k) (by omega) hk
    simp at this
theorem p_among (c : UInt8) (set : Bytes) : PC Tryz.V 126 [.int .u8 c.toNat,.str set] (.bool (set.contains c)) := by
  refine pc_of 3000 Tryz.func126 rfl Tryz.ntmps126 Tryz.results126 Tryz.call126 (by simp) (by simp [flat,flat.flatL]) (by simp [flat,flat.flatL]) ?_
  simp only [lawG,↓Xn,↓Xo,↓Xg,↓Xd,↓Xe,↓Xf,Tryz.VΓ,Tryz.Γs,Xp,Xi,Nat.reduceAdd,Nat.reduceSub,Nat.reduceLT,Nat.reduceLeDiff,reduceIte,reduceCtorEq,Nat.reduceEqDiff,implies_true,forall_const,lawV]
  (refine callV_pc (p_IndexByte set c) ?_; simp only [lawG,↓Xn,↓Xo,↓Xg,↓Xd,↓Xe,↓Xf,Tryz.VΓ,Tryz.Γs,Xp,Xi,Nat.reduceAdd,Nat.reduceSub,Nat.reduceLT,Nat.reduceLeDiff,reduceIte,reduceCtorEq,Nat.reduceEqDiff,implies_true,forall_const,lawV])
  rw [idx_geq]
theorem p_alnum (c : UInt8) : PC Tryz.V 125 [.int .u8 c.toNat] (.bool (isAlpha c || isDigit c)) := by
  refine pc_of 3000 Tryz.func125 rfl Tryz.ntmps125 Tryz.results125 Tryz.call125 (by simp) (by simp [flat,flat.flatL]) (by simp [flat,flat.flatL]) ?_
  simp only [lawG,↓Xn,↓Xo,↓Xg,↓Xd,↓Xe,↓Xf,Tryz.VΓ,Tryz.Γs,Xp,Xi,Nat.reduceAdd,Nat.reduceSub,Nat.reduceLT,Nat.reduceLeDiff,reduceIte,reduceCtorEq,Nat.reduceEqDiff,implies_true,forall_const,lawV]
  (refine callV_pc (p_IsAlpha c) ?_; simp only [lawG,↓Xn,↓Xo,↓Xg,↓Xd,↓Xe,↓Xf,Tryz.VΓ,Tryz.Γs,Xp,Xi,Nat.reduceAdd,Nat.reduceSub,Nat.reduceLT,Nat.reduceLeDiff,reduceIte,reduceCtorEq,Nat.reduceEqDiff,implies_true,forall_const,lawV])
  refine ⟨fun h => ?_,fun h => by rw [h]; rfl⟩
  (refine callV_pc (p_IsDigit c) ?_; simp only [lawG,↓Xn,↓Xo,↓Xg,↓Xd,↓Xe,↓Xf,Tryz.VΓ,Tryz.Γs,Xp,Xi,Nat.reduceAdd,Nat.reduceSub,Nat.reduceLT,Nat.reduceLeDiff,reduceIte,reduceCtorEq,Nat.reduceEqDiff,implies_true,forall_const,lawV])
  rw [h]; rfl
theorem p_IsUnreserved (c : UInt8) : PC Tryz.V 109 [.int .u8 c.toNat] (.bool (unres c)) := by
  refine pc_of 3000 Tryz.func109 rfl Tryz.ntmps109 Tryz.results109 Tryz.call109 (by simp) (by simp [flat,flat.flatL]) (by simp [flat,flat.flatL]) ?_
  simp only [lawG,↓Xn,↓Xo,↓Xg,↓Xd,↓Xe,↓Xf,Tryz.VΓ,Tryz.Γs,Xp,Xi,Nat.reduceAdd,Nat.reduceSub,Nat.reduceLT,Nat.reduceLeDiff,reduceIte,reduceCtorEq,Nat.reduceEqDiff,implies_true,forall_const,lawV]
  (refine callV_pc (p_alnum c) ?_; simp only [lawG,↓Xn,↓Xo,↓Xg,↓Xd,↓Xe,↓Xf,Tryz.VΓ,Tryz.Γs,Xp,Xi,Nat.reduceAdd,Nat.reduceSub,Nat.reduceLT,Nat.reduceLeDiff,reduceIte,reduceCtorEq,Nat.reduceEqDiff,implies_true,forall_const,lawV])
  refine ⟨fun h => ?_,fun h => by unfold unres; rw [h]; rfl⟩
  (refine callV_pc (p_among c [45,46,95,126]) ?_; simp only [lawG,↓Xn,↓Xo,↓Xg,↓Xd,↓Xe,↓Xf,Tryz.VΓ,Tryz.Γs,Xp,Xi,Nat.reduceAdd,Nat.reduceSub,Nat.reduceLT,Nat.reduceLeDiff,reduceIte,reduceCtorEq,Nat.reduceEqDiff,implies_true,forall_const,lawV])
  unfold unres; rw [h]; rfl
theorem dig_low (c : UInt8) (h : isDigit c = true) : IntKind.u8.wrap ((c.toNat : Int) - 48) = hexVal c := by
  have := all256 (p := fun c => !isDigit c || decide (IntKind.u8.wrap ((c.toNat : Int) - 48) = hexVal c)) (by decide +kernel) c
  simpa [h] using this
theorem dig_high (c : UInt8) (h : isHex c = true) (h2 : isDigit c = false) : IntKind.u8.wrap (IntKind.u8.wrap (bitI .or .u8 (c.toNat : Int) 32 - 97) + 10) = hexVal c := by
  have := all256 (p := fun c => !isHex c || isDigit c || decide (IntKind.u8.wrap (IntKind.u8.wrap (bitI .or .u8 (c.toNat : Int) 32 - 97) + 10) = hexVal c)) (by decide +kernel) c
  simpa [h,h2] using this
theorem p_digit (c : UInt8) (hc : isHex c = true) : PC Tryz.V 124 [.int .u8 c.toNat] (.int .u8 (hexVal c)) := by
  refine pc_of 3000 Tryz.func124 rfl Tryz.ntmps124 Tryz.results124 Tryz.call124 (by simp) (by simp [flat,flat.flatL]) (by simp [flat,flat.flatL]) ?_
  simp only [lawG,↓Xn,↓Xo,↓Xg,↓Xd,↓Xe,↓Xf,Tryz.VΓ,Tryz.Γs,Xp,Xi,Nat.reduceAdd,Nat.reduceSub,Nat.reduceLT,Nat.reduceLeDiff,reduceIte,reduceCtorEq,Nat.reduceEqDiff,implies_true,forall_const,lawV]
  (refine callV_pc (p_IsDigit c) ?_; simp only [lawG,↓Xn,↓Xo,↓Xg,↓Xd,↓Xe,↓Xf,Tryz.VΓ,Tryz.Γs,Xp,Xi,Nat.reduceAdd,Nat.reduceSub,Nat.reduceLT,Nat.reduceLeDiff,reduceIte,reduceCtorEq,Nat.reduceEqDiff,implies_true,forall_const,lawV])
  refine ⟨fun h => ?_,fun h => ?_⟩
  · rw [dig_low c h]
  · rw [dig_high c hc h]
theorem unhex_bits (a b : UInt8) (ha : isHex a = true) (hb : isHex b = true) : bitI .or .u8 (shI .shl .u8 (hexVal a) 4) (hexVal b) = ((unhex a b).toNat : Int) := by
  have h1 := hexVal_le ha
  have h2 := hexVal_le hb
  have : ∀ x,x < 16 → ∀ y,y < 16 → bitI .or .u8 (shI .shl .u8 (x : Nat) 4) (y : Nat) = (((x * 16 + y).toUInt8).toNat : Int) := by decide +kernel
  exact this _ (by omega) _ (by omega)
def escAt (s : Bytes) (i : Nat) : Option UInt8 := (hexPair (s.drop (i + 1))).map fun x => unhex x.1 x.2.1
theorem hexPair_drop (s : Bytes) (i : Nat) : hexPair (s.drop (i + 1)) = if i + 2 < s.length then (if isHex (s.getD (i + 1) 0) && isHex (s.getD (i + 2) 0) then some (s.getD (i + 1) 0,s.getD (i + 2) 0,s.drop (i + 3)) else none) else none := by
  by_cases h : i + 2 < s.length
  · rw [if_pos h,List.drop_eq_getElem_cons (by omega : i + 1 < s.length),List.drop_eq_getElem_cons (by omega : i + 1 + 1 < s.length)]
    simp only [hexPair,List.getD_eq_getElem?_getD]
    simp [show i + 1 < s.length by omega,h]
  · rw [if_neg h]
    have hl : (s.drop (i + 1)).length ≤ 1 := by simp; omega
    match hm : s.drop (i + 1),hl with
    | [],_ => rfl
    | [_],_ => rfl
set_option maxHeartbeats 1000000 in
set_option maxRecDepth 20000 in
theorem p_escaped (s : Bytes) (i : Nat) (hi : i < s.length) (hs : s.length ≤ 9223372036854775807) : PC Tryz.V 108 [.str s,.int .i64 i] (.tup [.int .u8 (((escAt s i).getD 0).toNat : Int),.bool (escAt s i).isSome]) := by
  refine pc_of 3000 Tryz.func108 rfl Tryz.ntmps108 Tryz.results108 Tryz.call108 (by simp) (by simp [flat,flat.flatL]) (by simp [flat,flat.flatL]) ?_
  simp only [lawG,↓Xn,↓Xo,↓Xg,↓Xd,↓Xe,↓Xf,Tryz.VΓ,Tryz.Γs,Xp,Xi,Nat.reduceAdd,Nat.reduceSub,Nat.reduceLT,Nat.reduceLeDiff,reduceIte,reduceCtorEq,Nat.reduceEqDiff,implies_true,forall_const,lawV]
  unfold escAt
  rw [hexPair_drop]
  refine ⟨⟨by omega,by omega⟩,fun hl => ?_,fun hl => ?_⟩
  · have hl : i + 2 < s.length := (by simp at hl; omega)
    rw [if_pos hl]
    refine ⟨⟨by omega,by omega⟩,⟨by omega,by omega⟩,?_⟩
    (refine callV_pc (p_IsHex _) ?_; simp only [lawG,↓Xn,↓Xo,↓Xg,↓Xd,↓Xe,↓Xf,Tryz.VΓ,Tryz.Γs,Xp,Xi,Nat.reduceAdd,Nat.reduceSub,Nat.reduceLT,Nat.reduceLeDiff,reduceIte,reduceCtorEq,Nat.reduceEqDiff,implies_true,forall_const,lawV])
    refine ⟨fun ha => ⟨⟨by omega,by omega⟩,⟨by omega,by omega⟩,?_⟩,fun ha => ?_⟩
    · have ha : isHex (s.getD (i + 1) 0) = true := by simpa using ha
      (refine callV_pc (p_IsHex _) ?_; simp only [lawG,↓Xn,↓Xo,↓Xg,↓Xd,↓Xe,↓Xf,Tryz.VΓ,Tryz.Γs,Xp,Xi,Nat.reduceAdd,Nat.reduceSub,Nat.reduceLT,Nat.reduceLeDiff,reduceIte,reduceCtorEq,Nat.reduceEqDiff,implies_true,forall_const,lawV])
      refine ⟨fun hb => ?_,fun hb => ⟨⟨by omega,by omega⟩,⟨by omega,by omega⟩,?_⟩⟩
      · have hb : isHex (s.getD (i + 2) 0) = false := by simpa using hb
        rw [ha,hb]; rfl
      · have hb : isHex (s.getD (i + 2) 0) = true := by simpa using hb
        (refine callD_pc (p_digit _ ha) ?_; simp only [lawG,↓Xn,↓Xo,↓Xg,↓Xd,↓Xe,↓Xf,Tryz.VΓ,Tryz.Γs,Xp,Xi,Nat.reduceAdd,Nat.reduceSub,Nat.reduceLT,Nat.reduceLeDiff,reduceIte,reduceCtorEq,Nat.reduceEqDiff,implies_true,forall_const,lawV])
        refine ⟨by omega,⟨by omega,by omega⟩,⟨by omega,by omega⟩,?_⟩
        (refine callD_pc (p_digit _ hb) ?_; simp only [lawG,↓Xn,↓Xo,↓Xg,↓Xd,↓Xe,↓Xf,Tryz.VΓ,Tryz.Γs,Xp,Xi,Nat.reduceAdd,Nat.reduceSub,Nat.reduceLT,Nat.reduceLeDiff,reduceIte,reduceCtorEq,Nat.reduceEqDiff,implies_true,forall_const,lawV])
        refine ⟨(OkD_fast (by kernel_rfl)),?_⟩
        rw [unhex_bits _ _ ha hb,ha,hb]; rfl
    · have ha : isHex (s.getD (i + 1) 0) = false := by simpa using ha
      rw [ha]; rfl
  · have hl : ¬ i + 2 < s.length := (by simp at hl; omega)
    rw [if_neg hl]; rfl
theorem shr4 (c : UInt8) : shI .shr .u8 (c.toNat : Int) 4 = ((c.toNat / 16 : Nat) : Int) := by
  have := all256 (p := fun c => decide (shI .shr .u8 (c.toNat : Int) 4 = ((c.toNat / 16 : Nat) : Int))) (by decide +kernel) c
  simpa using this
theorem and15 (c : UInt8) : bitI .and .u8 (c.toNat : Int) 15 = ((c.toNat % 16 : Nat) : Int) := by
  have := all256 (p := fun c => decide (bitI .and .u8 (c.toNat : Int) 15 = ((c.toNat % 16 : Nat) : Int))) (by decide +kernel) c
  simpa using this
theorem digs_at : ∀ n,n < 16 → ([48,49,50,51,52,53,54,55,56,57,65,66,67,68,69,70] : Bytes).getD n 0 = hexU n := by decide
theorem esc_cells (c : UInt8) : (esc c).map u8S = [.int .u8 37,.int .u8 ((hexU (c.toNat / 16)).toNat : Int),.int .u8 ((hexU (c.toNat % 16)).toNat : Int)] := rfl
structure TxAt (bs : List Res) (i L : Nat) (x : SV) (l : Bytes) : Prop where
  box : bs[i]? = some (.cells [x] 126 true)
  sl : Sl 5 1 L x bs (l.map u8S) l.length
  lt : i < L
theorem TxAt.ne {bs : List Res} {i L j n : Nat} {l : Bytes} (h : TxAt bs i L (.o j n) l) : i ≠ j := by
  rcases h.sl with ⟨h1,-⟩ | ⟨j',h1,h2,-⟩
  · cases h1
  · cases h1; have := h.lt; omega
set_option maxRecDepth 20000 in
set_option maxHeartbeats 1000000 in
theorem sc_escape {bs : List Res} {i L : Nat} {x : SV} {l : Bytes} (h : TxAt bs i L x l) (hL : L ≤ bs.length) (hl : l.length ≤ 1000000) (c : UInt8) :
    SC Tryz.V 110 [.p i 0,.int .u8 c.toNat] bs (fun r b => r = .tup [] ∧ ∃ x',TxAt b i L x' (l ++ esc c) ∧ bs.length ≤ b.length ∧ ∀ k,k < L → k ≠ i → b[k]? = bs[k]?) := by
  have hil : i < bs.length := (List.getElem?_eq_some_iff.1 h.box).1
  have hc := c.toNat_lt
  have d1 := digs_at (c.toNat / 16) (by omega)
  have d2 := digs_at (c.toNat % 16) (by omega)
  have s1 := shr4 c
  have s2 := and15 c
  have hbox := h.box
  have ec := esc_cells c
  refine sc_of 3000 Tryz.func110 rfl Tryz.ntmps110 Tryz.results110 Tryz.call110 (by simp) (fun β β' hb => concL_within bs.length _ (by simp [within,within.withinL,hil]) β β' hb) ?_
  rcases h.sl with ⟨rfl,hc0,hn0⟩ | ⟨j,rfl,hLj,hj⟩
  · obtain rfl : l = [] := by simpa using hc0
    have ho : ∀ X,(bs ++ [X])[i]? = some (.cells [.nils] 126 true) := fun X => at_old hbox [X]
    have ho2 : ∀ X Y,(bs ++ [X] ++ [Y])[i]? = some (.cells [.nils] 126 true) := fun X Y => at_old (ho X) [Y]
    simp only [lawG,↓Xn,↓Xo,↓Xg,↓Xd,↓Xe,↓Xf,Tryz.VΓ,Tryz.Γs,Xp,Xi,Nat.reduceAdd,Nat.reduceSub,Nat.reduceLT,Nat.reduceLeDiff,reduceIte,reduceCtorEq,Nat.reduceEqDiff,implies_true,forall_const,lawV,hbox,s1,s2,Int.toNat_natCast,d1,d2,at_new,ho,ho2]
    rw [← ec]
    have n1 : ¬ bs.length = i := by omega
    have n2 : ∀ X,¬ (bs ++ [X]).length = i := fun X => by simp; omega
    refine ⟨by omega,⟨by omega,by omega⟩,⟨by omega,by omega⟩,by omega,⟨by unfold maxLen; omega,by omega⟩,?_,_,⟨List.getElem?_set_self (by simp; omega),.inr ⟨_,rfl,by simp; omega,?_⟩,h.lt⟩,by simp,fun k hk hki => ?_⟩
    · exact (by
      refine OkD_ren (fun n => if n = i then 0 else 1) ?_
      simp only [List.map_cons,List.map_nil,renRk,renT,reduceIte,n1,n2]
      exact OkD_fast (by kernel_rfl))
    · rw [List.getElem?_set_ne (fun e => n2 _ e.symm),at_new]; rfl
    · rw [List.getElem?_set_ne (fun e => hki e.symm),List.getElem?_append_left (by simp; omega),List.getElem?_append_left (by omega)]
  · have hij := h.ne
    have hjl : j < bs.length := (List.getElem?_eq_some_iff.1 hj).1
    have ho : ∀ X,(bs ++ [X])[j]? = some (.own (l.map u8S) 5 1 l.length true) := fun X => at_old hj [X]
    have ho2 : ∀ X Y,((bs ++ [X]).set j .gone ++ [Y])[i]? = some (.cells [.o j l.length] 126 true) := fun X Y => by
      rw [List.getElem?_append_left (by simp; omega),List.getElem?_set_ne hij.symm]; exact at_old hbox [X]
    simp only [lawG,↓Xn,↓Xo,↓Xg,↓Xd,↓Xe,↓Xf,Tryz.VΓ,Tryz.Γs,Xp,Xi,Nat.reduceAdd,Nat.reduceSub,Nat.reduceLT,Nat.reduceLeDiff,reduceIte,reduceCtorEq,Nat.reduceEqDiff,implies_true,forall_const,lawV,hbox,s1,s2,Int.toNat_natCast,d1,d2,at_new,ho,ho2]
    rw [← ec,← List.map_append]
    have n1 : ¬ bs.length = i := by omega
    have n2 : ∀ X,¬ (bs ++ [X]).length = i := fun X => by simp; omega
    have n3 : ¬ j = i := fun e => hij e.symm
    refine ⟨by omega,⟨by omega,by omega⟩,⟨by omega,by omega⟩,by omega,⟨by unfold maxLen; omega,by omega⟩,?_,_,⟨List.getElem?_set_self (by simp; omega),.inr ⟨(bs ++ [Res.own ((esc c).map u8S) 5 1 3 true]).length,by simp [esc],by simp; omega,?_⟩,h.lt⟩,by simp; omega,fun k hk hki => ?_⟩
    · exact (by
      refine OkD_ren (fun n => if n = i then 0 else 1) ?_
      simp only [List.map_cons,List.map_nil,renRk,renT,reduceIte,n1,n2,n3]
      exact OkD_fast (by kernel_rfl))
    · rw [List.getElem?_set_ne (fun e => n2 _ e.symm),List.getElem?_append_right (by simp)]; simp [esc]
    · rw [List.getElem?_set_ne (fun e => hki e.symm),List.getElem?_append_left (by simp; omega),List.getElem?_set_ne (by omega),List.getElem?_append_left (by omega)]
theorem txt_one {bs : List Res} {i L : Nat} {x : SV} {l : Bytes} (h : TxAt bs i L x l) (hL : L ≤ bs.length) (c : UInt8) (hx : x = .nils) : TxAt ((bs ++ [Res.own [u8S c] 5 1 1 true] ++ [Res.own [u8S c] 5 1 1 true]).set i (Res.cells [.o (bs ++ [Res.own [u8S c] 5 1 1 true]).length 1] 126 true)) i L (.o (bs ++ [Res.own [u8S c] 5 1 1 true]).length 1) (l ++ [c]) := by
  have hil : i < bs.length := (List.getElem?_eq_some_iff.1 h.box).1
  have hl : l = [] := by
    rcases h.sl with ⟨-,h1,-⟩ | ⟨j,h1,-,-⟩
    · simpa using h1
    · rw [hx] at h1; cases h1
  subst hl
  have n2 : ∀ X,¬ (bs ++ [X]).length = i := fun X => by simp; omega
  refine ⟨List.getElem?_set_self (by simp; omega),.inr ⟨_,rfl,by simp; omega,?_⟩,h.lt⟩
  rw [List.getElem?_set_ne (fun e => n2 _ e.symm),at_new]
  rfl
theorem txt_more {bs : List Res} {i L j : Nat} {l : Bytes} (h : TxAt bs i L (.o j l.length) l) (hL : L ≤ bs.length) (c : UInt8) (hLj : L ≤ j) : TxAt (((bs ++ [Res.own [u8S c] 5 1 1 true]).set j .gone ++ [Res.own (l.map u8S ++ [u8S c]) 5 1 (l.length + 1) true]).set i (Res.cells [.o (bs ++ [Res.own [u8S c] 5 1 1 true]).length (l.length + 1)] 126 true)) i L (.o (bs ++ [Res.own [u8S c] 5 1 1 true]).length (l.length + 1)) (l ++ [c]) := by
  have hil : i < bs.length := (List.getElem?_eq_some_iff.1 h.box).1
  refine ⟨List.getElem?_set_self (by simp; omega),.inr ⟨(bs ++ [Res.own [u8S c] 5 1 1 true]).length,by simp,by simp; omega,?_⟩,h.lt⟩
  rw [List.getElem?_set_ne (by simp; omega),List.getElem?_append_right (by simp)]
  simp
def NoI (also s : Bytes) (σ : St) : Prop := ∃ (i : Nat) (x : SV) (d : Bytes),lk 0 σ.t = some (.str s) ∧ lk 1 σ.t = some (.str also) ∧ lk 6 σ.t = some (.p 0 0) ∧ lk 7 σ.t = some (.int .i64 i) ∧ i ≤ s.length ∧ d.length ≤ 3 * i ∧ 1 ≤ σ.b.length ∧ TxAt σ.b 0 1 x d ∧ comb d (normU also (units (s.drop i))) = normU also (units s)
def NoM (s : Bytes) (σ : St) : Nat := match lk 7 σ.t with
  | some (.int _ k) => s.length - k.toNat
  | _ => 0
theorem NoM_eq {s : Bytes} {σ : St} {k : Nat} (h : lk 7 σ.t = some (.int .i64 k)) : NoM s σ = s.length - k := by simp [NoM,h]
theorem no_mk {also s : Bytes} {t : List (Nat × SV)} {b : List Res} {i i' : Nat} {x : SV} {d : Bytes} (h0 : lk 0 t = some (.str s)) (h1 : lk 1 t = some (.str also)) (h6 : lk 6 t = some (.p 0 0)) (h7 : lk 7 t = some (.int .i64 i')) (h : i' ≤ s.length ∧ d.length ≤ 3 * i') (hb : 1 ≤ b.length) (ht : TxAt b 0 1 x d)
    (hn : comb d (normU also (units (s.drop i'))) = normU also (units s)) (hlt : i < i') : NoI also s ⟨t,b⟩ ∧ NoM s ⟨t,b⟩ < s.length - i :=
  ⟨⟨i',x,d,h0,h1,h6,h7,h.1,h.2,hb,ht,hn⟩,by rw [NoM_eq h7]; omega⟩
theorem units_step {s : Bytes} {i : Nat} (hi : i < s.length) : units (s.drop i) = if s[i] = 37 then (match escAt s i with
    | some _ => (match hexPair (s.drop (i + 1)) with
      | some (a,b,_) => .hex a b :: units (s.drop (i + 3))
      | none => [.bad])
    | none => [.bad]) else .lit s[i] :: units (s.drop (i + 1)) := by
  rw [List.drop_eq_getElem_cons hi]
  by_cases h : s[i] = 37
  · rw [if_pos h,h]
    unfold escAt
    cases hp : hexPair (s.drop (i + 1)) with
    | none => simp only [Option.map_none]; exact units_bad hp
    | some x =>
      obtain ⟨a,b,r⟩ := x
      obtain ⟨h1,h2,h3⟩ := hexPair_some hp
      simp only [Option.map_some]
      rw [h1,units_hex h2 h3]
      congr 2
      have := congrArg (List.drop 2) h1
      rw [List.drop_drop] at this
      exact this.symm
  · rw [if_neg h,units_lit h]
set_option maxRecDepth 20000 in
set_option maxHeartbeats 4000000 in
theorem p_Normalize (s also : Bytes) (ha : also.length ≤ 1000) : PC Tryz.V 92 [.str s,.str also] (.tup [.str (pctNorm also s).1,.int .i64 (pctNorm also s).2]) := by
  refine pc_of 3000 Tryz.func92 rfl Tryz.ntmps92 Tryz.results92 Tryz.call92 (by simp) (by simp [flat,flat.flatL]) (by simp [flat,flat.flatL]) ?_
  simp only [lawG,↓Xn,↓Xo,↓Xg,↓Xd,↓Xe,↓Xf,Tryz.VΓ,Tryz.Γs,Xp,Xi,Nat.reduceAdd,Nat.reduceSub,Nat.reduceLT,Nat.reduceLeDiff,reduceIte,reduceCtorEq,Nat.reduceEqDiff,implies_true,forall_const,lawV]
  unfold pctNorm
  refine ⟨fun hl => ?_,fun hl => ?_⟩
  · have hl : 16384 < s.length := (by simp at hl; omega)
    rw [if_pos hl]
  have hl : s.length ≤ 16384 := (by simp at hl; omega)
  rw [if_neg (by omega)]
  refine loopV_mk (NoI also s) (NoM s) ⟨0,.nils,[],rfl,rfl,rfl,rfl,by omega,by simp,by simp,⟨rfl,.inl ⟨rfl,rfl,rfl⟩,by omega⟩,comb_nil _ (normU_err also _)⟩ ?_
  rintro ⟨t,b⟩ ⟨i,x,d,h0,h1,h6,h7,hi,hd,hbl,ht,hn⟩
  simp only at h0 h1 h6 h7 hbl ht
  rw [NoM_eq h7]
  have hbox := ht.box
  by_cases hlt : i < s.length
  · have hu := units_step hlt
    have hg : s.getD i 0 = s[i] := by simp [List.getD,hlt]
    simp only [lawG,↓Xn,↓Xo,↓Xg,↓Xd,↓Xe,↓Xf,Tryz.VΓ,Tryz.Γs,Xp,Xi,Nat.reduceAdd,Nat.reduceSub,Nat.reduceLT,Nat.reduceLeDiff,reduceIte,reduceCtorEq,Nat.reduceEqDiff,implies_true,forall_const,lawV,h0,h1,h6,h7]
    refine ⟨fun _ => ⟨⟨by omega,by omega⟩,fun hc => ?_,fun hc => ?_⟩,fun h => absurd h (by simp; omega)⟩
    · rw [byte_is (n := 37) hlt 37 rfl] at hc
      rw [if_pos (by simpa using hc)] at hu
      have pe := p_escaped s i hlt (by omega)
      cases he : escAt s i with
      | none =>
        rw [he] at pe hu
        simp only at hu
        rw [hu] at hn
        have hres : normU also (units s) = ([],2) := by rw [← hn]; rfl
        rw [hres]
        (refine callV_pc pe ?_; simp only [lawG,↓Xn,↓Xo,↓Xg,↓Xd,↓Xe,↓Xf,Tryz.VΓ,Tryz.Γs,Xp,Xi,Nat.reduceAdd,Nat.reduceSub,Nat.reduceLT,Nat.reduceLeDiff,reduceIte,reduceCtorEq,Nat.reduceEqDiff,implies_true,forall_const,lawV,h0,h1,h6,h7,Option.isSome_none])
      | some v =>
        rw [he] at pe hu
        have hx := he
        unfold escAt at hx
        obtain ⟨⟨a,bb,r⟩,hp,hv⟩ := Option.map_eq_some_iff.1 hx
        simp only at hv
        rw [hp] at hu
        simp only at hu
        have hi3 : i + 3 ≤ s.length := by
          obtain ⟨h1,-,-⟩ := hexPair_some hp
          have := congrArg List.length h1
          simp at this
          omega
        have hn2 : comb (d ++ normB v) (normU also (units (s.drop (i + 2 + 1)))) = normU also (units s) := by
          rw [← hn,hu,normU,comb_comb,hv]
        simp only [Option.getD_some,Option.isSome_some] at pe
        (refine callV_pc pe ?_; simp only [lawG,↓Xn,↓Xo,↓Xg,↓Xd,↓Xe,↓Xf,Tryz.VΓ,Tryz.Γs,Xp,Xi,Nat.reduceAdd,Nat.reduceSub,Nat.reduceLT,Nat.reduceLeDiff,reduceIte,reduceCtorEq,Nat.reduceEqDiff,implies_true,forall_const,lawV,h0,h1,h6,h7])
        refine ⟨⟨by omega,by omega⟩,?_⟩
        (refine callV_pc (p_IsUnreserved v) ?_; simp only [lawG,↓Xn,↓Xo,↓Xg,↓Xd,↓Xe,↓Xf,Tryz.VΓ,Tryz.Γs,Xp,Xi,Nat.reduceAdd,Nat.reduceSub,Nat.reduceLT,Nat.reduceLeDiff,reduceIte,reduceCtorEq,Nat.reduceEqDiff,implies_true,forall_const,lawV,h0,h1,h6,h7])
        refine ⟨fun hq => ?_,fun hq => ?_⟩
        · have hn3 : comb (d ++ [v]) (normU also (units (s.drop (i + 2 + 1)))) = normU also (units s) := by
            rw [← hn2]; unfold normB; rw [if_pos hq]
          (rcases ht.sl with ⟨rfl,hc0,hn0⟩ | ⟨j,rfl,hLj,hj⟩
           · have ho : ∀ X,(b ++ [X])[0]? = some (.cells [.nils] 126 true) := fun X => at_old hbox [X]
             have ho2 : ∀ X Y,(b ++ [X] ++ [Y])[0]? = some (.cells [.nils] 126 true) := fun X Y => at_old (ho X) [Y]
             simp only [lawG,↓Xn,↓Xo,↓Xg,↓Xd,↓Xe,↓Xf,Tryz.VΓ,Tryz.Γs,Xp,Xi,Nat.reduceAdd,Nat.reduceSub,Nat.reduceLT,Nat.reduceLeDiff,reduceIte,reduceCtorEq,Nat.reduceEqDiff,implies_true,forall_const,lawV,h0,h1,h6,h7,hbox,at_new,ho,ho2]
             refine ⟨by omega,⟨by unfold maxLen; omega,by omega⟩,⟨by omega,by omega⟩,no_mk (i' := i + 2 + 1) (x := .o (b ++ [Res.own [u8S (v)] 5 1 1 true]).length 1) (d := d ++ [v]) h0 h1 h6 (by simp only [lk,reduceIte,Option.some.injEq,SV.int.injEq,true_and]; omega) ⟨by omega,by simp; omega⟩ (by simp) (txt_one ht hbl (v) rfl) (hn3) (by omega)⟩
           · have hlj : d.length = d.length := rfl
             have ho : ∀ X,(b ++ [X])[j]? = some (.own (d.map u8S) 5 1 d.length true) := fun X => at_old hj [X]
             have ho2 : ∀ X Y,((b ++ [X]).set j .gone ++ [Y])[0]? = some (.cells [.o j d.length] 126 true) := fun X Y => by
               rw [List.getElem?_append_left (by simp),List.getElem?_set_ne (by omega)]; exact at_old hbox [X]
             simp only [lawG,↓Xn,↓Xo,↓Xg,↓Xd,↓Xe,↓Xf,Tryz.VΓ,Tryz.Γs,Xp,Xi,Nat.reduceAdd,Nat.reduceSub,Nat.reduceLT,Nat.reduceLeDiff,reduceIte,reduceCtorEq,Nat.reduceEqDiff,implies_true,forall_const,lawV,h0,h1,h6,h7,hbox,at_new,ho,ho2]
             refine ⟨by omega,⟨by unfold maxLen; omega,by omega⟩,⟨by omega,by omega⟩,no_mk (i' := i + 2 + 1) (x := .o (b ++ [Res.own [u8S (v)] 5 1 1 true]).length (d.length + 1)) (d := d ++ [v]) h0 h1 h6 (by simp only [lk,reduceIte,Option.some.injEq,SV.int.injEq,true_and]; omega) ⟨by omega,by simp; omega⟩ (by simp) (txt_more ht hbl (v) hLj) (hn3) (by omega)⟩)
        · have hn3 : comb (d ++ esc v) (normU also (units (s.drop (i + 2 + 1)))) = normU also (units s) := by
            rw [← hn2]; unfold normB; rw [if_neg (by simp [hq])]
          refine callV_sc (sc_escape ht hbl (by omega) v) ?_
          rintro r b' ⟨rfl,x',ht',hbl',-⟩
          simp only [lawG,↓Xn,↓Xo,↓Xg,↓Xd,↓Xe,↓Xf,Tryz.VΓ,Tryz.Γs,Xp,Xi,Nat.reduceAdd,Nat.reduceSub,Nat.reduceLT,Nat.reduceLeDiff,reduceIte,reduceCtorEq,Nat.reduceEqDiff,implies_true,forall_const,lawV,h0,h1,h6,h7]
          exact ⟨⟨by omega,by omega⟩,no_mk (i' := i + 2 + 1) (d := d ++ esc v) h0 h1 h6 (by simp only [lk,reduceIte,Option.some.injEq,SV.int.injEq,true_and]; omega) ⟨by omega,by simp [esc]; omega⟩ (by omega) ht' hn3 (by omega)⟩
    · rw [byte_is (n := 37) hlt 37 rfl] at hc
      rw [if_neg (by simpa using hc)] at hu
      rw [hu,normU] at hn
      rw [hg]
      have hn2 : keepB also s[i] = true → comb (d ++ [s[i]]) (normU also (units (s.drop (i + 1)))) = normU also (units s) := fun hk => by
        rw [← hn,if_pos hk,comb_comb]
      (refine callV_pc (p_IsUnreserved s[i]) ?_; simp only [lawG,↓Xn,↓Xo,↓Xg,↓Xd,↓Xe,↓Xf,Tryz.VΓ,Tryz.Γs,Xp,Xi,Nat.reduceAdd,Nat.reduceSub,Nat.reduceLT,Nat.reduceLeDiff,reduceIte,reduceCtorEq,Nat.reduceEqDiff,implies_true,forall_const,lawV,h0,h1,h6,h7,hg])
      refine ⟨fun hq => ?_,fun hq => ?_⟩
      · (refine callV_pc (p_IndexByte also s[i]) ?_; simp only [lawG,↓Xn,↓Xo,↓Xg,↓Xd,↓Xe,↓Xf,Tryz.VΓ,Tryz.Γs,Xp,Xi,Nat.reduceAdd,Nat.reduceSub,Nat.reduceLT,Nat.reduceLeDiff,reduceIte,reduceCtorEq,Nat.reduceEqDiff,implies_true,forall_const,lawV,h0,h1,h6,h7,hg])
        rw [idx_geq]
        refine ⟨fun hq2 => ?_,fun hq2 => ?_⟩
        · have hk : keepB also s[i] = true := by unfold keepB; rw [hq2]; simp
          (rcases ht.sl with ⟨rfl,hc0,hn0⟩ | ⟨j,rfl,hLj,hj⟩
           · have ho : ∀ X,(b ++ [X])[0]? = some (.cells [.nils] 126 true) := fun X => at_old hbox [X]
             have ho2 : ∀ X Y,(b ++ [X] ++ [Y])[0]? = some (.cells [.nils] 126 true) := fun X Y => at_old (ho X) [Y]
             simp only [lawG,↓Xn,↓Xo,↓Xg,↓Xd,↓Xe,↓Xf,Tryz.VΓ,Tryz.Γs,Xp,Xi,Nat.reduceAdd,Nat.reduceSub,Nat.reduceLT,Nat.reduceLeDiff,reduceIte,reduceCtorEq,Nat.reduceEqDiff,implies_true,forall_const,lawV,h0,h1,h6,h7,hbox,at_new,ho,ho2]
             refine ⟨by omega,⟨by unfold maxLen; omega,by omega⟩,⟨by omega,by omega⟩,no_mk (i' := i + 1) (x := .o (b ++ [Res.own [u8S (s[i])] 5 1 1 true]).length 1) (d := d ++ [s[i]]) h0 h1 h6 (by simp only [lk,reduceIte,Option.some.injEq,SV.int.injEq,true_and]; omega) ⟨by omega,by simp; omega⟩ (by simp) (txt_one ht hbl (s[i]) rfl) (hn2 hk) (by omega)⟩
           · have hlj : d.length = d.length := rfl
             have ho : ∀ X,(b ++ [X])[j]? = some (.own (d.map u8S) 5 1 d.length true) := fun X => at_old hj [X]
             have ho2 : ∀ X Y,((b ++ [X]).set j .gone ++ [Y])[0]? = some (.cells [.o j d.length] 126 true) := fun X Y => by
               rw [List.getElem?_append_left (by simp),List.getElem?_set_ne (by omega)]; exact at_old hbox [X]
             simp only [lawG,↓Xn,↓Xo,↓Xg,↓Xd,↓Xe,↓Xf,Tryz.VΓ,Tryz.Γs,Xp,Xi,Nat.reduceAdd,Nat.reduceSub,Nat.reduceLT,Nat.reduceLeDiff,reduceIte,reduceCtorEq,Nat.reduceEqDiff,implies_true,forall_const,lawV,h0,h1,h6,h7,hbox,at_new,ho,ho2]
             refine ⟨by omega,⟨by unfold maxLen; omega,by omega⟩,⟨by omega,by omega⟩,no_mk (i' := i + 1) (x := .o (b ++ [Res.own [u8S (s[i])] 5 1 1 true]).length (d.length + 1)) (d := d ++ [s[i]]) h0 h1 h6 (by simp only [lk,reduceIte,Option.some.injEq,SV.int.injEq,true_and]; omega) ⟨by omega,by simp; omega⟩ (by simp) (txt_more ht hbl (s[i]) hLj) (hn2 hk) (by omega)⟩)
        · have hk : ¬ keepB also s[i] = true := by unfold keepB; rw [hq,hq2]; simp
          rw [if_neg hk] at hn
          have hres : normU also (units s) = ([],1) := by rw [← hn]; rfl
          rw [hres]
      · have hk : keepB also s[i] = true := by unfold keepB; rw [hq]; simp
        (rcases ht.sl with ⟨rfl,hc0,hn0⟩ | ⟨j,rfl,hLj,hj⟩
         · have ho : ∀ X,(b ++ [X])[0]? = some (.cells [.nils] 126 true) := fun X => at_old hbox [X]
           have ho2 : ∀ X Y,(b ++ [X] ++ [Y])[0]? = some (.cells [.nils] 126 true) := fun X Y => at_old (ho X) [Y]
           simp only [lawG,↓Xn,↓Xo,↓Xg,↓Xd,↓Xe,↓Xf,Tryz.VΓ,Tryz.Γs,Xp,Xi,Nat.reduceAdd,Nat.reduceSub,Nat.reduceLT,Nat.reduceLeDiff,reduceIte,reduceCtorEq,Nat.reduceEqDiff,implies_true,forall_const,lawV,h0,h1,h6,h7,hbox,at_new,ho,ho2]
           refine ⟨by omega,⟨by unfold maxLen; omega,by omega⟩,⟨by omega,by omega⟩,no_mk (i' := i + 1) (x := .o (b ++ [Res.own [u8S (s[i])] 5 1 1 true]).length 1) (d := d ++ [s[i]]) h0 h1 h6 (by simp only [lk,reduceIte,Option.some.injEq,SV.int.injEq,true_and]; omega) ⟨by omega,by simp; omega⟩ (by simp) (txt_one ht hbl (s[i]) rfl) (hn2 hk) (by omega)⟩
         · have hlj : d.length = d.length := rfl
           have ho : ∀ X,(b ++ [X])[j]? = some (.own (d.map u8S) 5 1 d.length true) := fun X => at_old hj [X]
           have ho2 : ∀ X Y,((b ++ [X]).set j .gone ++ [Y])[0]? = some (.cells [.o j d.length] 126 true) := fun X Y => by
             rw [List.getElem?_append_left (by simp),List.getElem?_set_ne (by omega)]; exact at_old hbox [X]
           simp only [lawG,↓Xn,↓Xo,↓Xg,↓Xd,↓Xe,↓Xf,Tryz.VΓ,Tryz.Γs,Xp,Xi,Nat.reduceAdd,Nat.reduceSub,Nat.reduceLT,Nat.reduceLeDiff,reduceIte,reduceCtorEq,Nat.reduceEqDiff,implies_true,forall_const,lawV,h0,h1,h6,h7,hbox,at_new,ho,ho2]
           refine ⟨by omega,⟨by unfold maxLen; omega,by omega⟩,⟨by omega,by omega⟩,no_mk (i' := i + 1) (x := .o (b ++ [Res.own [u8S (s[i])] 5 1 1 true]).length (d.length + 1)) (d := d ++ [s[i]]) h0 h1 h6 (by simp only [lk,reduceIte,Option.some.injEq,SV.int.injEq,true_and]; omega) ⟨by omega,by simp; omega⟩ (by simp) (txt_more ht hbl (s[i]) hLj) (hn2 hk) (by omega)⟩)
  · have hie : i = s.length := by omega
    subst hie
    rw [List.drop_length,units_nil] at hn
    have hres : normU also (units s) = (d,0) := by rw [← hn]; simp [normU,comb]
    rw [hres]
    rcases ht.sl with ⟨rfl,hc0,hn0⟩ | ⟨j,rfl,hLj,hj⟩
    · obtain rfl : d = [] := by simpa using hc0
      simp only [lawG,↓Xn,↓Xo,↓Xg,↓Xd,↓Xe,↓Xf,Tryz.VΓ,Tryz.Γs,Xp,Xi,Nat.reduceAdd,Nat.reduceSub,Nat.reduceLT,Nat.reduceLeDiff,reduceIte,reduceCtorEq,Nat.reduceEqDiff,implies_true,forall_const,lawV,h0,h1,h6,h7,hbox]
      exact fun h => (by simp at h)
    · simp only [lawG,↓Xn,↓Xo,↓Xg,↓Xd,↓Xe,↓Xf,Tryz.VΓ,Tryz.Γs,Xp,Xi,Nat.reduceAdd,Nat.reduceSub,Nat.reduceLT,Nat.reduceLeDiff,reduceIte,reduceCtorEq,Nat.reduceEqDiff,implies_true,forall_const,lawV,h0,h1,h6,h7,hbox,hj]
      refine ⟨fun h => absurd h (by simp),fun _ => ⟨isU8_map d,?_⟩⟩
      rw [unU8_map]
end Go.Proofs.YtejfjmcjicpodaaGreatDoor
/- The walks of package uri: schemes. -/
set_option linter.all false
namespace Go.Proofs.YtejfjmcjicpodaaGreatDoor
open Go.RowKit Wf
attribute [local go_sem] ex_list app_list get_list
end Go.Proofs.YtejfjmcjicpodaaGreatDoor
/- The walks of package uri. -/
set_option linter.all false
set_option maxRecDepth 20000
namespace Go.Proofs.YtejfjmcjicpodaaGreatDoor
open Go Vc Go.RowKit Wf
set_option linter.unusedSimpArgs false
end Go.Proofs.YtejfjmcjicpodaaGreatDoor
/- The walks of package uri: merge,Resolve. -/
set_option linter.all false
set_option maxRecDepth 20000
namespace Go.Proofs.YtejfjmcjicpodaaGreatDoor
open Go Vc Go.RowKit Wf
set_option linter.unusedSimpArgs false
end Go.Proofs.YtejfjmcjicpodaaGreatDoor
/- The walks of the references 01 and 06. -/
set_option linter.all false
set_option maxRecDepth 20000
namespace Go.Proofs.YtejfjmcjicpodaaGreatDoor
open Go Vc Go.RowKit Wf
set_option linter.unusedSimpArgs false
end Go.Proofs.YtejfjmcjicpodaaGreatDoor
/- The walks of reference 06: scheme,Split,merged,Resolve. -/
set_option linter.all false
set_option maxRecDepth 20000
namespace Go.Proofs.YtejfjmcjicpodaaGreatDoor
open Go Vc Go.RowKit Wf
set_option linter.unusedSimpArgs false
end Go.Proofs.YtejfjmcjicpodaaGreatDoor
/- The walks of the reference for package percent. -/
set_option linter.all false
set_option maxRecDepth 20000
namespace Go.Proofs.YtejfjmcjicpodaaGreatDoor
open Go Vc Go.RowKit Wf
end Go.Proofs.YtejfjmcjicpodaaGreatDoor
/- The walk of the reference's Normalize. -/
set_option linter.all false
set_option maxRecDepth 20000
namespace Go.Proofs.YtejfjmcjicpodaaGreatDoor
open Go Vc Go.RowKit Wf
end Go.Proofs.YtejfjmcjicpodaaGreatDoor
/- The walks of Decode and Encode,in the program and in the reference. -/
set_option linter.all false
set_option maxRecDepth 20000
namespace Go.Proofs.YtejfjmcjicpodaaGreatDoor
open Go Vc Go.RowKit Wf
def decGo : List PU → Bytes × Int
  | [] => ([],0)
  | .bad :: _ => ([],2)
  | .lit c :: r => comb [c] (decGo r)
  | .hex a b :: r => comb [unhex a b] (decGo r)
theorem decGo_eq : ∀ l : List PU,decGo l = if PU.bad ∈ l then ([],2) else (l.map PU.val,0)
  | [] => rfl
  | .bad :: r => by simp [decGo]
  | .lit c :: r => by
    rw [decGo,decGo_eq r]
    by_cases h : PU.bad ∈ r
    · simp [h,comb]
    · simp [h,comb,PU.val]
  | .hex a b :: r => by
    rw [decGo,decGo_eq r]
    by_cases h : PU.bad ∈ r
    · simp [h,comb]
    · simp [h,comb,PU.val]
theorem decGo_err (l : List PU) : (decGo l).2 ≠ 0 → (decGo l).1 = [] := by
  rw [decGo_eq]
  split
  · intro _; rfl
  · intro h; exact absurd rfl h
def DcI (s : Bytes) (σ : St) : Prop := ∃ (i : Nat) (x : SV) (d : Bytes),lk 0 σ.t = some (.str s) ∧ lk 4 σ.t = some x ∧ lk 5 σ.t = some (.int .i64 i) ∧ i ≤ s.length ∧ d.length ≤ i ∧ Sl 5 1 0 x σ.b (d.map u8S) d.length ∧ comb d (decGo (units (s.drop i))) = decGo (units s)
def DcM (s : Bytes) (σ : St) : Nat := match lk 5 σ.t with
  | some (.int _ k) => s.length - k.toNat
  | _ => 0
theorem DcM_eq {s : Bytes} {σ : St} {k : Nat} (h : lk 5 σ.t = some (.int .i64 k)) : DcM s σ = s.length - k := by simp [DcM,h]
theorem dc_mk {s : Bytes} {t : List (Nat × SV)} {b : List Res} {i i' : Nat} {x : SV} {d : Bytes} (h0 : lk 0 t = some (.str s)) (h4 : lk 4 t = some x) (h5 : lk 5 t = some (.int .i64 i')) (h : i' ≤ s.length ∧ d.length ≤ i') (ht : Sl 5 1 0 x b (d.map u8S) d.length)
    (hn : comb d (decGo (units (s.drop i'))) = decGo (units s)) (hlt : i < i') : DcI s ⟨t,b⟩ ∧ DcM s ⟨t,b⟩ < s.length - i :=
  ⟨⟨i',x,d,h0,h4,h5,h.1,h.2,ht,hn⟩,by rw [DcM_eq h5]; omega⟩
set_option maxRecDepth 20000 in
set_option maxHeartbeats 4000000 in
theorem p_Decode (s : Bytes) : PC Tryz.V 93 [.str s] (.tup [.str (pctDecode s).1,.int .i64 (pctDecode s).2]) := by
  have hpd : pctDecode s = if 16384 < s.length then ([],5) else decGo (units s) := by unfold pctDecode; rw [decGo_eq]
  rw [hpd]
  refine pc_of 3000 Tryz.func93 rfl Tryz.ntmps93 Tryz.results93 Tryz.call93 (by simp) (by simp [flat,flat.flatL]) (by simp [flat,flat.flatL]) ?_
  simp only [lawG,↓Xn,↓Xo,↓Xg,↓Xd,↓Xe,↓Xf,Tryz.VΓ,Tryz.Γs,Xp,Xi,Nat.reduceAdd,Nat.reduceSub,Nat.reduceLT,Nat.reduceLeDiff,reduceIte,reduceCtorEq,Nat.reduceEqDiff,implies_true,forall_const,lawV]
  refine ⟨fun hl => ?_,fun hl => ?_⟩
  · have hl : 16384 < s.length := (by simp at hl; omega)
    rw [if_pos hl]
  have hl : s.length ≤ 16384 := (by simp at hl; omega)
  rw [if_neg (by omega)]
  refine loopV_mk (DcI s) (DcM s) ⟨0,.nils,[],rfl,rfl,rfl,by omega,by simp,.inl ⟨rfl,rfl,rfl⟩,comb_nil _ (decGo_err _)⟩ ?_
  rintro ⟨t,b⟩ ⟨i,x,d,h0,h4,h5,hi,hd,ht,hn⟩
  simp only at h0 h4 h5 ht
  rw [DcM_eq h5]
  by_cases hlt : i < s.length
  · have hu := units_step hlt
    have hg : s.getD i 0 = s[i] := by simp [List.getD,hlt]
    simp only [lawG,↓Xn,↓Xo,↓Xg,↓Xd,↓Xe,↓Xf,Tryz.VΓ,Tryz.Γs,Xp,Xi,Nat.reduceAdd,Nat.reduceSub,Nat.reduceLT,Nat.reduceLeDiff,reduceIte,reduceCtorEq,Nat.reduceEqDiff,implies_true,forall_const,lawV,h0,h4,h5]
    refine ⟨fun _ => ⟨⟨by omega,by omega⟩,fun hc => ?_,fun hc => ?_⟩,fun h => absurd h (by simp; omega)⟩
    · have hc : s[i] = 37 := by
        rw [byte_is (n := 37) hlt 37 rfl] at hc
        simpa using hc
      rw [if_pos hc] at hu
      have pe := p_escaped s i hlt (by omega)
      cases he : escAt s i with
      | none =>
        rw [he] at pe hu
        simp only at hu
        rw [hu] at hn
        have hres : decGo (units s) = ([],2) := by rw [← hn]; rfl
        rw [hres]
        (refine callV_pc pe ?_; simp only [lawG,↓Xn,↓Xo,↓Xg,↓Xd,↓Xe,↓Xf,Tryz.VΓ,Tryz.Γs,Xp,Xi,Nat.reduceAdd,Nat.reduceSub,Nat.reduceLT,Nat.reduceLeDiff,reduceIte,reduceCtorEq,Nat.reduceEqDiff,implies_true,forall_const,lawV,h0,h4,h5,Option.isSome_none])
      | some v =>
        rw [he] at pe hu
        have hx := he
        unfold escAt at hx
        obtain ⟨⟨a,bb,r⟩,hp,hv⟩ := Option.map_eq_some_iff.1 hx
        simp only at hv
        rw [hp] at hu
        simp only at hu
        have hi3 : i + 3 ≤ s.length := by
          obtain ⟨h1,-,-⟩ := hexPair_some hp
          have := congrArg List.length h1
          simp at this
          omega
        have hn2 : comb (d ++ [v]) (decGo (units (s.drop (i + 2 + 1)))) = decGo (units s) := by
          rw [← hn,hu,decGo,comb_comb,hv]
        simp only [Option.getD_some,Option.isSome_some] at pe
        (refine callV_pc pe ?_; simp only [lawG,↓Xn,↓Xo,↓Xg,↓Xd,↓Xe,↓Xf,Tryz.VΓ,Tryz.Γs,Xp,Xi,Nat.reduceAdd,Nat.reduceSub,Nat.reduceLT,Nat.reduceLeDiff,reduceIte,reduceCtorEq,Nat.reduceEqDiff,implies_true,forall_const,lawV,h0,h4,h5])
        (rcases ht with ⟨rfl,hc0,hn0⟩ | ⟨j,rfl,hLj,hj⟩
         · obtain rfl : d = [] := by simpa using hc0
           simp only [lawG,↓Xn,↓Xo,↓Xg,↓Xd,↓Xe,↓Xf,Tryz.VΓ,Tryz.Γs,Xp,Xi,Nat.reduceAdd,Nat.reduceSub,Nat.reduceLT,Nat.reduceLeDiff,reduceIte,reduceCtorEq,Nat.reduceEqDiff,implies_true,forall_const,lawV,h0,h4,h5,hg,at_new]
           refine ⟨⟨by omega,by omega⟩,by omega,⟨by unfold maxLen; omega,by omega⟩,⟨by omega,by omega⟩,dc_mk (i' := i + 2 + 1) (x := .o (b ++ [Res.own [u8S (v)] 5 1 1 true]).length 1) (d := [] ++ [v]) h0 rfl (by simp only [lk,reduceIte,Option.some.injEq,SV.int.injEq,true_and]; omega) ⟨by omega,by simp only [List.nil_append,List.length_cons,List.length_nil]; omega⟩ (.inr ⟨_,rfl,by omega,at_new _ _⟩) (hn2) (by omega)⟩
         · have hjl : j < b.length := (List.getElem?_eq_some_iff.1 hj).1
           have ho : ∀ X,(b ++ [X])[j]? = some (.own (d.map u8S) 5 1 d.length true) := fun X => at_old hj [X]
           simp only [lawG,↓Xn,↓Xo,↓Xg,↓Xd,↓Xe,↓Xf,Tryz.VΓ,Tryz.Γs,Xp,Xi,Nat.reduceAdd,Nat.reduceSub,Nat.reduceLT,Nat.reduceLeDiff,reduceIte,reduceCtorEq,Nat.reduceEqDiff,implies_true,forall_const,lawV,h0,h4,h5,hg,at_new,ho]
           refine ⟨⟨by omega,by omega⟩,by omega,⟨by unfold maxLen; omega,by omega⟩,⟨by omega,by omega⟩,dc_mk (i' := i + 2 + 1) (x := .o (b ++ [Res.own [u8S (v)] 5 1 1 true]).length (d.length + 1)) (d := d ++ [v]) h0 rfl (by simp only [lk,reduceIte,Option.some.injEq,SV.int.injEq,true_and]; omega) ⟨by omega,by simp; omega⟩ (.inr ⟨(b ++ [Res.own [u8S (v)] 5 1 1 true]).length,by simp,by omega,by rw [List.getElem?_append_right (by simp)]; simp [u8S]⟩) (hn2) (by omega)⟩)
    · have hc : ¬ s[i] = 37 := by
        rw [byte_is (n := 37) hlt 37 rfl] at hc
        simpa using hc
      rw [if_neg hc] at hu
      rw [hu,decGo,comb_comb] at hn
      rw [hg]
      (rcases ht with ⟨rfl,hc0,hn0⟩ | ⟨j,rfl,hLj,hj⟩
       · obtain rfl : d = [] := by simpa using hc0
         simp only [lawG,↓Xn,↓Xo,↓Xg,↓Xd,↓Xe,↓Xf,Tryz.VΓ,Tryz.Γs,Xp,Xi,Nat.reduceAdd,Nat.reduceSub,Nat.reduceLT,Nat.reduceLeDiff,reduceIte,reduceCtorEq,Nat.reduceEqDiff,implies_true,forall_const,lawV,h0,h4,h5,hg,at_new]
         refine ⟨ by omega,⟨by unfold maxLen; omega,by omega⟩,⟨by omega,by omega⟩,dc_mk (i' := i + 1) (x := .o (b ++ [Res.own [u8S (s[i])] 5 1 1 true]).length 1) (d := [] ++ [s[i]]) h0 rfl (by simp only [lk,reduceIte,Option.some.injEq,SV.int.injEq,true_and]; omega) ⟨by omega,by simp only [List.nil_append,List.length_cons,List.length_nil]; omega⟩ (.inr ⟨_,rfl,by omega,at_new _ _⟩) (hn) (by omega)⟩
       · have hjl : j < b.length := (List.getElem?_eq_some_iff.1 hj).1
         have ho : ∀ X,(b ++ [X])[j]? = some (.own (d.map u8S) 5 1 d.length true) := fun X => at_old hj [X]
         simp only [lawG,↓Xn,↓Xo,↓Xg,↓Xd,↓Xe,↓Xf,Tryz.VΓ,Tryz.Γs,Xp,Xi,Nat.reduceAdd,Nat.reduceSub,Nat.reduceLT,Nat.reduceLeDiff,reduceIte,reduceCtorEq,Nat.reduceEqDiff,implies_true,forall_const,lawV,h0,h4,h5,hg,at_new,ho]
         refine ⟨ by omega,⟨by unfold maxLen; omega,by omega⟩,⟨by omega,by omega⟩,dc_mk (i' := i + 1) (x := .o (b ++ [Res.own [u8S (s[i])] 5 1 1 true]).length (d.length + 1)) (d := d ++ [s[i]]) h0 rfl (by simp only [lk,reduceIte,Option.some.injEq,SV.int.injEq,true_and]; omega) ⟨by omega,by simp; omega⟩ (.inr ⟨(b ++ [Res.own [u8S (s[i])] 5 1 1 true]).length,by simp,by omega,by rw [List.getElem?_append_right (by simp)]; simp [u8S]⟩) (hn) (by omega)⟩)
  · have hie : i = s.length := by omega
    subst hie
    rw [List.drop_length,units_nil] at hn
    have hres : decGo (units s) = (d,0) := by rw [← hn]; simp [decGo,comb]
    rw [hres]
    rcases ht with ⟨rfl,hc0,hn0⟩ | ⟨j,rfl,hLj,hj⟩
    · obtain rfl : d = [] := by simpa using hc0
      simp only [lawG,↓Xn,↓Xo,↓Xg,↓Xd,↓Xe,↓Xf,Tryz.VΓ,Tryz.Γs,Xp,Xi,Nat.reduceAdd,Nat.reduceSub,Nat.reduceLT,Nat.reduceLeDiff,reduceIte,reduceCtorEq,Nat.reduceEqDiff,implies_true,forall_const,lawV,h0,h4,h5]
      exact fun h => absurd h (by simp)
    · simp only [lawG,↓Xn,↓Xo,↓Xg,↓Xd,↓Xe,↓Xf,Tryz.VΓ,Tryz.Γs,Xp,Xi,Nat.reduceAdd,Nat.reduceSub,Nat.reduceLT,Nat.reduceLeDiff,reduceIte,reduceCtorEq,Nat.reduceEqDiff,implies_true,forall_const,lawV,h0,h4,h5,hj]
      refine ⟨fun h => absurd h (by simp),fun _ => ⟨isU8_map d,?_⟩⟩
      rw [unU8_map]
end Go.Proofs.YtejfjmcjicpodaaGreatDoor
/- Plain functions and laws of package mail. -/
set_option linter.all false
namespace Wf
open Go Go.RowKit
structure Mail where
  loc : Bytes
  host : Bytes
  deriving DecidableEq
def Mail.none : Mail := ⟨[],[]⟩
end Wf
/- The walks of package number. -/
set_option linter.all false
namespace Go.Proofs.YtejfjmcjicpodaaGreatDoor
open Go.RowKit Wf
attribute [local go_sem] ex_list app_list get_list

end Go.Proofs.YtejfjmcjicpodaaGreatDoor
/- The walks of package host. -/
set_option linter.all false
namespace Go.Proofs.YtejfjmcjicpodaaGreatDoor
open Go.RowKit Wf
attribute [local go_sem] ex_list app_list get_list

end Go.Proofs.YtejfjmcjicpodaaGreatDoor
/- The walks of package host: ports,hosts with ports,texts. -/
set_option linter.all false
namespace Go.Proofs.YtejfjmcjicpodaaGreatDoor
open Go.RowKit Go.Sort Wf
attribute [local go_sem] ex_list app_list get_list

end Go.Proofs.YtejfjmcjicpodaaGreatDoor
/- Slices of the call's own: one element appended. -/
set_option linter.all false
namespace Wf
open Go Go.RowKit
end Wf
/- The walks of the reference of package host. -/
set_option linter.all false
namespace Go.Proofs.YtejfjmcjicpodaaGreatDoor
open Go.RowKit Go.Sort Wf
attribute [local go_sem] ex_list app_list get_list

end Go.Proofs.YtejfjmcjicpodaaGreatDoor
/- The walks of the reference of package host: hosts,ports,texts. -/
set_option linter.all false
namespace Go.Proofs.YtejfjmcjicpodaaGreatDoor
open Go.RowKit Go.Sort Wf
attribute [local go_sem] ex_list app_list get_list

end Go.Proofs.YtejfjmcjicpodaaGreatDoor
/- The contracts of package host and its reference,for the calculus of conditions. -/
set_option linter.all false
set_option maxRecDepth 20000
namespace Go.Proofs.YtejfjmcjicpodaaGreatDoor
open Go Vc Go.RowKit Wf
end Go.Proofs.YtejfjmcjicpodaaGreatDoor
/- The walk of the reference's Split. -/
set_option linter.all false
set_option maxRecDepth 20000
namespace Go.Proofs.YtejfjmcjicpodaaGreatDoor
open Go Vc Go.RowKit Wf
set_option linter.unusedSimpArgs false
end Go.Proofs.YtejfjmcjicpodaaGreatDoor
/- The walks of package mail and of its reference. -/
set_option linter.all false
set_option maxRecDepth 20000
namespace Go.Proofs.YtejfjmcjicpodaaGreatDoor
open Go Vc Go.RowKit Wf
end Go.Proofs.YtejfjmcjicpodaaGreatDoor
/- The walks of package weburl and its reference: Target,Origin,Format. -/
set_option linter.all false
set_option maxRecDepth 20000
namespace Go.Proofs.YtejfjmcjicpodaaGreatDoor
open Go Vc Go.RowKit Wf
set_option linter.unusedSimpArgs false
theorem pre_mem (l : Bytes) (c : UInt8) : pre (· == c) l < l.length ↔ c ∈ l := by
  induction l with
  | nil => simp [pre]
  | cons x l ih =>
    rw [pre_cons]
    by_cases h : x = c
    · simp [h]
    · rw [if_neg (by simpa using h)]
      simp only [List.length_cons,Nat.add_lt_add_iff_right,ih,List.mem_cons]
      exact ⟨.inr,fun k => k.resolve_left fun e => h e.symm⟩
theorem contains_one (l : Bytes) (c : UInt8) : decide (0 ≤ Lib.indexByte l c) = decide (c ∈ l) := by
  rw [indexByte_pre]
  by_cases h : c ∈ l
  · rw [if_pos ((pre_mem l c).2 h)]; simp [h]
  · rw [if_neg (fun k => h ((pre_mem l c).1 k))]; simp [h]
theorem p_Contains (l : Bytes) (c : UInt8) : PC Tryz.V 94 [.str l,.str [c]] (.bool (decide (c ∈ l))) :=
  ⟨Tryz.call94,by simp [flat,flat.flatL],by simp [flat,flat.flatL],fun w hE => (Tryz.strings_Contains_one ⟨List.toArray l⟩ c w).mono fun _ _ ⟨h,k⟩ => ⟨by
    rw [h]
    have e : decide (0 ≤ Lib.indexByte l c) = decide (c ∈ l) := contains_one l c
    rw [← e]; rfl,below_same k.symm⟩⟩
end Go.Proofs.YtejfjmcjicpodaaGreatDoor
/- The walks of package did. -/
set_option linter.all false
set_option maxRecDepth 20000
namespace Go.Proofs.YtejfjmcjicpodaaGreatDoor
open Go Vc Go.RowKit Wf
set_option linter.unusedSimpArgs false
def dsv (d : Did) : SV := .agg [.str d.method,.str d.id]
def dusv (u : DidUrl) : SV := .agg [.str u.did.method,.str u.did.id,.str u.path,.str u.query,.str u.fragment,.bool u.hasQuery,.bool u.hasFrag]
theorem p_ReplaceAll (s : Bytes) (c : UInt8) (new : Bytes) (hne : ([c] == new) = false) (hs : s.length ≤ 1000000) (hn : new.length ≤ 1000) : PC Tryz.V 95 [.str s,.str [c],.str new] (.str (s.flatMap (repB c new))) :=
  ⟨Tryz.call95,by simp [flat,flat.flatL],by simp [flat,flat.flatL],fun w ⟨m,hm⟩ => by
    have hc : Lib.countB ⟨List.toArray s⟩ ⟨#[c]⟩ ≤ s.length + 1 := Lib.count_le s [c]
    have hm2 : Lib.countB ⟨List.toArray s⟩ ⟨#[c]⟩ * new.length ≤ 1000001 * 1000 := Nat.mul_le_mul (by omega) hn
    refine (Tryz.strings_ReplaceAll ⟨List.toArray s⟩ ⟨#[c]⟩ ⟨List.toArray new⟩ m w (show s.length < 4294967281 by omega) hm (Nat.le_refl 1) (show s.length + Lib.countB ⟨List.toArray s⟩ ⟨#[c]⟩ * new.length ≤ 140737488355328 by omega)).mono fun _ _ ⟨h,k⟩ => ⟨?_,k⟩
    rw [h,← replaceAll_one c new s hne]
    rfl⟩
theorem p_HasSuffix (s : Bytes) (c : UInt8) (hs : s.length ≤ 1000000) : PC Tryz.V 64 [.str s,.str [c]] (.bool (decide (s.getLast? = some c))) :=
  ⟨Tryz.call64,by simp [flat,flat.flatL],by simp [flat,flat.flatL],fun w _ => (Tryz.strings_HasSuffix ⟨List.toArray s⟩ ⟨#[c]⟩ w (show s.length ≤ 9223372036854775807 by omega)).mono fun _ _ ⟨h,k⟩ => ⟨by
    rw [h]
    have e : Lib.hasSuffix s [c] = decide (s.getLast? = some c) := by
      unfold Lib.hasSuffix
      rcases List.eq_nil_or_concat s with rfl | ⟨a,d,rfl⟩
      · rfl
      · rw [List.concat_eq_append,Bool.eq_iff_iff,List.isSuffixOf_iff_suffix,decide_eq_true_eq,List.getLast?_concat,Option.some.injEq]
        constructor
        · rintro ⟨t,ht⟩
          have := congrArg List.getLast? ht
          simpa using this.symm
        · rintro rfl; exact ⟨a,rfl⟩
    rw [← e]; rfl,below_same k.symm⟩⟩
theorem methodC_is (c : UInt8) (h : isDigit c = false) : methodC c = (decide (97 ≤ c.toNat) && decide (c.toNat ≤ 122)) := by
  unfold methodC; rw [h]; simp [Bool.decide_and]
set_option maxHeartbeats 2000000 in
theorem p_did_method (s : Bytes) (hs : s.length ≤ 1000000) : PC Tryz.V 62 [.str s] (.bool (methodOk s)) := by
  refine pc_of 3000 Tryz.func62 rfl Tryz.ntmps62 Tryz.results62 Tryz.call62 (by simp) (by simp [flat,flat.flatL]) (by simp [flat,flat.flatL]) ?_
  simp only [lawG,↓Xn,↓Xo,↓Xg,↓Xd,↓Xe,↓Xf,Tryz.VΓ,Tryz.Γs,Xp,Xi,Nat.reduceAdd,Nat.reduceSub,Nat.reduceLT,Nat.reduceLeDiff,reduceIte,reduceCtorEq,Nat.reduceEqDiff,implies_true,forall_const,lawV]
  refine loopV_mk (fun σ => ∃ i : Nat,i ≤ s.length ∧ lk 0 σ.t = some (.str s) ∧ lk 4 σ.t = some (.str s) ∧ lk 5 σ.t = some (.int .i64 s.length) ∧ lk 6 σ.t = some (.int .i64 i) ∧ (s.take i).all methodC = true) (fun σ => s.length - lkI 6 σ) ⟨0,by omega,rfl,rfl,rfl,rfl,rfl⟩ ?_
  rintro ⟨t,b⟩ ⟨i,hi,h0,h4,h5,h6,hok⟩
  simp only at h0 h4 h5 h6
  rw [lkI_eq h6]
  by_cases hlt : i < s.length
  · have hg : s.getD i 0 = s[i] := by simp [List.getD,hlt]
    have hbad : methodC s[i] = false → methodOk s = false := fun h => by
      unfold methodOk
      rw [all_not hlt h,Bool.and_false]
    simp only [lawG,↓Xn,↓Xo,↓Xg,↓Xd,↓Xe,↓Xf,Tryz.VΓ,Tryz.Γs,Xp,Xi,Nat.reduceAdd,Nat.reduceSub,Nat.reduceLT,Nat.reduceLeDiff,reduceIte,reduceCtorEq,Nat.reduceEqDiff,implies_true,forall_const,lawV,h0,h4,h5,h6,hg]
    refine ⟨fun _ => ⟨⟨by omega,by omega⟩,?_⟩,fun h => absurd h (by simp; omega)⟩
    (refine callV_pc (p_IsDigit s[i]) ?_; simp only [lawG,↓Xn,↓Xo,↓Xg,↓Xd,↓Xe,↓Xf,Tryz.VΓ,Tryz.Γs,Xp,Xi,Nat.reduceAdd,Nat.reduceSub,Nat.reduceLT,Nat.reduceLeDiff,reduceIte,reduceCtorEq,Nat.reduceEqDiff,implies_true,forall_const,lawV,h0,h4,h5,h6,hg])
    have fin : methodC s[i] = true → ∀ (t' : List (Nat × SV)),lk 6 t' = some (.int .i64 ((i : Int) + 1)) → (∃ k : Nat,k ≤ s.length ∧ SV.int IntKind.i64 ((i : Int) + 1) = SV.int IntKind.i64 (k : Int) ∧ (s.take k).all methodC = true) ∧ s.length - lkI 6 ⟨t',b⟩ < s.length - (i : Int).toNat := fun hm t' k6 =>
      ⟨⟨i + 1,by omega,rfl,all_take_snoc hlt hok hm⟩,by rw [lkI_eq (σ := ⟨t',b⟩) k6]; omega⟩
    cases hd : isDigit s[i]
    · refine ⟨fun _ => ⟨⟨by omega,by omega⟩,fun h1 => ⟨⟨by omega,by omega⟩,fun h2 => ?_,fun h2 => ⟨⟨by omega,by omega⟩,fin ?_ _ rfl⟩⟩,fun h1 => ?_⟩,fun h => (by cases h)⟩
      · rw [hbad (by rw [methodC_is _ hd]; simp at h1 h2 ⊢; omega)]
      · rw [methodC_is _ hd]; simp at h1 h2 ⊢; omega
      · rw [hbad (by rw [methodC_is _ hd]; simp at h1 ⊢; omega)]
    · exact ⟨fun h => (by cases h),fun _ => ⟨⟨by omega,by omega⟩,fin (by unfold methodC; rw [hd]; rfl) _ rfl⟩⟩
  · have hie : i = s.length := by omega
    subst hie
    rw [List.take_length] at hok
    simp only [lawG,↓Xn,↓Xo,↓Xg,↓Xd,↓Xe,↓Xf,Tryz.VΓ,Tryz.Γs,Xp,Xi,Nat.reduceAdd,Nat.reduceSub,Nat.reduceLT,Nat.reduceLeDiff,reduceIte,reduceCtorEq,Nat.reduceEqDiff,implies_true,forall_const,lawV,h0,h4,h5,h6]
    refine ⟨fun h => absurd h (by simp),fun _ => ?_⟩
    unfold methodOk
    rw [hok,Bool.and_true]
    cases s <;> rfl
set_option maxHeartbeats 2000000 in
theorem p_did_canonical (s : Bytes) (hs : s.length ≤ 4096) : PC Tryz.V 63 [.str s] (.tup [.str (progCanon s).1,.int .i64 (progCanon s).2]) := by
  have pn := p_Normalize s [58] (by decide)
  have pd := p_Decode s
  have pc := p_Contains s 126
  have pr := p_ReplaceAll (pctNorm [58] s).1 126 [37,55,69] (by decide) (by have := pctNorm_len [58] s; omega) (by decide)
  unfold progCanon
  generalize pctNorm [58] s = n at *
  generalize pctDecode s = d at *
  obtain ⟨n,e⟩ := n
  obtain ⟨d,f⟩ := d
  simp only at pn pd pr ⊢
  refine pc_of 3000 Tryz.func63 rfl Tryz.ntmps63 Tryz.results63 Tryz.call63 (by simp) (by simp [flat,flat.flatL]) (by simp [flat,flat.flatL]) ?_
  simp only [lawG,↓Xn,↓Xo,↓Xg,↓Xd,↓Xe,↓Xf,Tryz.VΓ,Tryz.Γs,Xp,Xi,Nat.reduceAdd,Nat.reduceSub,Nat.reduceLT,Nat.reduceLeDiff,reduceIte,reduceCtorEq,Nat.reduceEqDiff,implies_true,forall_const,lawV]
  (refine callV_pc (pn) ?_; simp only [lawG,↓Xn,↓Xo,↓Xg,↓Xd,↓Xe,↓Xf,Tryz.VΓ,Tryz.Γs,Xp,Xi,Nat.reduceAdd,Nat.reduceSub,Nat.reduceLT,Nat.reduceLeDiff,reduceIte,reduceCtorEq,Nat.reduceEqDiff,implies_true,forall_const,lawV])
  (refine callV_pc (pd) ?_; simp only [lawG,↓Xn,↓Xo,↓Xg,↓Xd,↓Xe,↓Xf,Tryz.VΓ,Tryz.Γs,Xp,Xi,Nat.reduceAdd,Nat.reduceSub,Nat.reduceLT,Nat.reduceLeDiff,reduceIte,reduceCtorEq,Nat.reduceEqDiff,implies_true,forall_const,lawV])
  refine ⟨fun h1 => ?_,fun h1 => ?_⟩
  · rw [if_pos (by simpa using h1)]
  rw [if_neg (by simpa using h1)]
  refine ⟨fun h2 => ?_,fun h2 => ?_⟩
  · have h2 : e = 0 := by simpa using h2
    (refine callV_pc pc ?_; simp only [lawG,↓Xn,↓Xo,↓Xg,↓Xd,↓Xe,↓Xf,Tryz.VΓ,Tryz.Γs,Xp,Xi,Nat.reduceAdd,Nat.reduceSub,Nat.reduceLT,Nat.reduceLeDiff,reduceIte,reduceCtorEq,Nat.reduceEqDiff,implies_true,forall_const,lawV])
    refine ⟨fun h3 => ?_,fun h3 => ?_⟩
    · (refine callV_pc pr ?_; simp only [lawG,↓Xn,↓Xo,↓Xg,↓Xd,↓Xe,↓Xf,Tryz.VΓ,Tryz.Γs,Xp,Xi,Nat.reduceAdd,Nat.reduceSub,Nat.reduceLT,Nat.reduceLeDiff,reduceIte,reduceCtorEq,Nat.reduceEqDiff,implies_true,forall_const,lawV])
      rw [if_pos ⟨h2,of_decide_eq_true h3⟩]
    · (refine callV_pc pr ?_; simp only [lawG,↓Xn,↓Xo,↓Xg,↓Xd,↓Xe,↓Xf,Tryz.VΓ,Tryz.Γs,Xp,Xi,Nat.reduceAdd,Nat.reduceSub,Nat.reduceLT,Nat.reduceLeDiff,reduceIte,reduceCtorEq,Nat.reduceEqDiff,implies_true,forall_const,lawV])
      rw [if_neg (fun k => of_decide_eq_false h3 k.2)]
  · have h2 : ¬ e = 0 := by simpa using h2
    (refine callV_pc pr ?_; simp only [lawG,↓Xn,↓Xo,↓Xg,↓Xd,↓Xe,↓Xf,Tryz.VΓ,Tryz.Γs,Xp,Xi,Nat.reduceAdd,Nat.reduceSub,Nat.reduceLT,Nat.reduceLeDiff,reduceIte,reduceCtorEq,Nat.reduceEqDiff,implies_true,forall_const,lawV])
    rw [if_neg (fun k => h2 k.1)]
theorem progEnd (m s : Bytes) (hs : s.length ≤ 4096) : didEnd m (progCanon s) = didEnd m (didCanon s) := by
  have h := progCanon_eq s (by omega)
  unfold didEnd
  rw [h.1]
  by_cases k : (didCanon s).2 = 0
  · rw [h.2 k]
  · rw [if_pos k,if_pos k]
theorem progCanon_len (s : Bytes) : (progCanon s).1.length ≤ 9 * s.length := by
  unfold progCanon
  split
  · simp
  · have h1 := pctNorm_len [58] s
    have h2 : ∀ l : Bytes,(l.flatMap (repB 126 [37,55,69])).length ≤ 3 * l.length := by
      intro l
      induction l with
      | nil => simp
      | cons c l ih =>
        rw [List.flatMap_cons,List.length_append,List.length_cons]
        have : (repB 126 [37,55,69] c).length ≤ 3 := by unfold repB; split <;> simp
        omega
    have := h2 (pctNorm [58] s).1
    simp only
    omega
set_option maxHeartbeats 2000000 in
theorem p_did_ParseDID (s : Bytes) : PC Tryz.V 23 [.str s] (.tup [dsv (didParse s).1,.int .i64 (didParse s).2]) := by
  refine pc_of 3000 Tryz.func23 rfl Tryz.ntmps23 Tryz.results23 Tryz.call23 (by simp) (by simp [flat,flat.flatL,dsv,dusv]) (by simp [flat,flat.flatL,dsv,dusv]) ?_
  simp only [lawG,↓Xn,↓Xo,↓Xg,↓Xd,↓Xe,↓Xf,Tryz.VΓ,Tryz.Γs,Xp,Xi,Nat.reduceAdd,Nat.reduceSub,Nat.reduceLT,Nat.reduceLeDiff,reduceIte,reduceCtorEq,Nat.reduceEqDiff,implies_true,forall_const,lawV]
  unfold didParse
  refine ⟨fun h => ?_,fun h => ?_⟩
  · have h : 4096 < s.length := (by simp at h; omega)
    rw [if_pos h]; rfl
  have h : ¬ 4096 < s.length := (by simp at h; omega)
  rw [if_neg h]
  have pp := p_CutPrefix s didS
  have hT : didS.isPrefixOf s = true → Lib.trimPrefix s didS = s.drop 4 := fun k => if_pos k
  rw [show Lib.hasPrefix s didS = didS.isPrefixOf s from rfl] at pp
  (refine callV_pc pp ?_; simp only [lawG,↓Xn,↓Xo,↓Xg,↓Xd,↓Xe,↓Xf,Tryz.VΓ,Tryz.Γs,Xp,Xi,Nat.reduceAdd,Nat.reduceSub,Nat.reduceLT,Nat.reduceLeDiff,reduceIte,reduceCtorEq,Nat.reduceEqDiff,implies_true,forall_const,lawV])
  refine ⟨fun h2 => ?_,fun h2 => ?_⟩
  · rw [if_pos (by simpa using h2)]; rfl
  rw [if_neg (by simpa using h2)]
  rw [hT (by simpa using h2)]
  have hS : (s.drop 4).length ≤ 4096 := by simp; omega
  generalize s.drop 4 = S at hS ⊢
  have pc := p_Cut S 58 (by omega)
  have hcl := cutC_len 58 S
  unfold didRest
  generalize cutC 58 S = x at pc hcl ⊢
  obtain ⟨m,i,ok⟩ := x
  simp only at pc hcl ⊢
  (refine callV_pc pc ?_; simp only [lawG,↓Xn,↓Xo,↓Xg,↓Xd,↓Xe,↓Xf,Tryz.VΓ,Tryz.Γs,Xp,Xi,Nat.reduceAdd,Nat.reduceSub,Nat.reduceLT,Nat.reduceLeDiff,reduceIte,reduceCtorEq,Nat.reduceEqDiff,implies_true,forall_const,lawV])
  refine ⟨fun h3 => ?_,fun h3 => ?_⟩
  · rw [if_pos (by simpa using h3)]; rfl
  rw [if_neg (by simpa using h3)]
  (refine callV_pc (p_did_method m (by omega)) ?_; simp only [lawG,↓Xn,↓Xo,↓Xg,↓Xd,↓Xe,↓Xf,Tryz.VΓ,Tryz.Γs,Xp,Xi,Nat.reduceAdd,Nat.reduceSub,Nat.reduceLT,Nat.reduceLeDiff,reduceIte,reduceCtorEq,Nat.reduceEqDiff,implies_true,forall_const,lawV])
  refine ⟨fun h4 => ?_,fun h4 => ?_⟩
  · rw [if_pos (by simpa using h4)]; rfl
  rw [if_neg (by simpa using h4)]
  have hi : i.length ≤ 4096 := by omega
  rw [← progEnd m i hi]
  have pk := p_did_canonical i hi
  have hkl := progCanon_len i
  generalize progCanon i = k at *
  obtain ⟨k,e⟩ := k
  simp only at pk hkl
  have ps := p_HasSuffix k 58 (by omega)
  unfold didEnd
  simp only
  (refine callV_pc pk ?_; simp only [lawG,↓Xn,↓Xo,↓Xg,↓Xd,↓Xe,↓Xf,Tryz.VΓ,Tryz.Γs,Xp,Xi,Nat.reduceAdd,Nat.reduceSub,Nat.reduceLT,Nat.reduceLeDiff,reduceIte,reduceCtorEq,Nat.reduceEqDiff,implies_true,forall_const,lawV])
  refine ⟨fun h5 => ?_,fun h5 => ?_⟩
  · rw [if_pos (by simpa using h5)]; rfl
  rw [if_neg (by simpa using h5)]
  refine ⟨fun h6 => ?_,fun h6 => ?_⟩
  · (refine callV_pc ps ?_; simp only [lawG,↓Xn,↓Xo,↓Xg,↓Xd,↓Xe,↓Xf,Tryz.VΓ,Tryz.Γs,Xp,Xi,Nat.reduceAdd,Nat.reduceSub,Nat.reduceLT,Nat.reduceLeDiff,reduceIte,reduceCtorEq,Nat.reduceEqDiff,implies_true,forall_const,lawV])
    refine ⟨fun h7 => ?_,fun h7 => ?_⟩
    · rw [if_pos (.inr (of_decide_eq_true h7))]; rfl
    · rw [if_neg (by simp only [not_or]; exact ⟨by simpa using h6,of_decide_eq_false h7⟩)]; rfl
  · rw [if_pos (.inl (by simpa using h6))]; rfl
set_option maxRecDepth 20000 in
set_option maxHeartbeats 4000000 in
theorem p_did_Parse (s : Bytes) : PC Tryz.V 98 [.str s] (.tup [dusv (didUrl s).1,.int .i64 (didUrl s).2]) := by
  refine pc_of 3000 Tryz.func98 rfl Tryz.ntmps98 Tryz.results98 Tryz.call98 (by simp) (by simp [flat,flat.flatL,dsv,dusv]) (by simp [flat,flat.flatL,dsv,dusv]) ?_
  simp only [lawG,↓Xn,↓Xo,↓Xg,↓Xd,↓Xe,↓Xf,Tryz.VΓ,Tryz.Γs,Xp,Xi,Nat.reduceAdd,Nat.reduceSub,Nat.reduceLT,Nat.reduceLeDiff,reduceIte,reduceCtorEq,Nat.reduceEqDiff,implies_true,forall_const,lawV]
  unfold didUrl
  refine ⟨fun h => ?_,fun h => ?_⟩
  · have h : 4096 < s.length := (by simp at h; omega)
    rw [if_pos h]; rfl
  have h : ¬ 4096 < s.length := (by simp at h; omega)
  rw [if_neg h]
  have c1 := p_Cut s 35 (by omega)
  have hc1 := cutC_len 35 s
  generalize cutC 35 s = x at c1 hc1 ⊢
  obtain ⟨s1,fr,hf⟩ := x
  simp only at c1 hc1 ⊢
  have c2 := p_Cut s1 63 (by omega)
  have hc2 := cutC_len 63 s1
  generalize cutC 63 s1 = x at c2 hc2 ⊢
  obtain ⟨s2,qu,hq⟩ := x
  simp only at c2 hc2 ⊢
  have pi := p_IndexByte s2 47
  rw [indexByte_pre] at pi
  have hpl := pre_le (· == 47) s2
  have p1 := p_did_ParseDID (s2.take (pre (· == 47) s2))
  have p2 := p_Normalize (s2.drop (pre (· == 47) s2)) inPath (by decide)
  have p3 := p_Normalize qu inQuery (by decide)
  have p4 := p_Normalize fr inQuery (by decide)
  unfold didUrlOf didUrlEnd
  (refine callV_pc c1 ?_; simp only [lawG,↓Xn,↓Xo,↓Xg,↓Xd,↓Xe,↓Xf,Tryz.VΓ,Tryz.Γs,Xp,Xi,Nat.reduceAdd,Nat.reduceSub,Nat.reduceLT,Nat.reduceLeDiff,reduceIte,reduceCtorEq,Nat.reduceEqDiff,implies_true,forall_const,lawV])
  (refine callV_pc c2 ?_; simp only [lawG,↓Xn,↓Xo,↓Xg,↓Xd,↓Xe,↓Xf,Tryz.VΓ,Tryz.Γs,Xp,Xi,Nat.reduceAdd,Nat.reduceSub,Nat.reduceLT,Nat.reduceLeDiff,reduceIte,reduceCtorEq,Nat.reduceEqDiff,implies_true,forall_const,lawV])
  by_cases hi : pre (· == 47) s2 < s2.length
  · rw [if_pos hi] at pi
    generalize didParse (s2.take (pre (· == 47) s2)) = r1 at p1 ⊢
    generalize pctNorm inPath (s2.drop (pre (· == 47) s2)) = r2 at p2 ⊢
    generalize pctNorm inQuery qu = r3 at p3 ⊢
    generalize pctNorm inQuery fr = r4 at p4 ⊢
    obtain ⟨⟨rm,ri⟩,e1⟩ := r1
    obtain ⟨r2,e2⟩ := r2
    obtain ⟨r3,e3⟩ := r3
    obtain ⟨r4,e4⟩ := r4
    unfold dsv at p1
    simp only at p1 p2 p3 p4 ⊢
    (refine callV_pc pi ?_; simp only [lawG,↓Xn,↓Xo,↓Xg,↓Xd,↓Xe,↓Xf,Tryz.VΓ,Tryz.Γs,Xp,Xi,Nat.reduceAdd,Nat.reduceSub,Nat.reduceLT,Nat.reduceLeDiff,reduceIte,reduceCtorEq,Nat.reduceEqDiff,implies_true,forall_const,lawV])
    refine ⟨fun _ => ⟨⟨by omega,by omega⟩,⟨by omega,by omega⟩,(OkD_fast (by kernel_rfl)),?_⟩,fun k => absurd k (by simp)⟩
    (refine callV_pc p1 ?_; simp only [lawG,↓Xn,↓Xo,↓Xg,↓Xd,↓Xe,↓Xf,Tryz.VΓ,Tryz.Γs,Xp,Xi,Nat.reduceAdd,Nat.reduceSub,Nat.reduceLT,Nat.reduceLeDiff,reduceIte,reduceCtorEq,Nat.reduceEqDiff,implies_true,forall_const,lawV])
    refine ⟨fun h1 => (by rw [if_pos (by simpa using h1)]; rfl),fun h1 => ?_⟩
    rw [if_neg (by simpa using h1)]
    (refine callV_pc p2 ?_; simp only [lawG,↓Xn,↓Xo,↓Xg,↓Xd,↓Xe,↓Xf,Tryz.VΓ,Tryz.Γs,Xp,Xi,Nat.reduceAdd,Nat.reduceSub,Nat.reduceLT,Nat.reduceLeDiff,reduceIte,reduceCtorEq,Nat.reduceEqDiff,implies_true,forall_const,lawV])
    refine ⟨fun h2 => (by rw [if_pos (by simpa using h2)]; rfl),fun h2 => ?_⟩
    rw [if_neg (by simpa using h2)]
    (refine callV_pc p3 ?_; simp only [lawG,↓Xn,↓Xo,↓Xg,↓Xd,↓Xe,↓Xf,Tryz.VΓ,Tryz.Γs,Xp,Xi,Nat.reduceAdd,Nat.reduceSub,Nat.reduceLT,Nat.reduceLeDiff,reduceIte,reduceCtorEq,Nat.reduceEqDiff,implies_true,forall_const,lawV])
    refine ⟨fun h3 => (by rw [if_pos (by simpa using h3)]; rfl),fun h3 => ?_⟩
    rw [if_neg (by simpa using h3)]
    (refine callV_pc p4 ?_; simp only [lawG,↓Xn,↓Xo,↓Xg,↓Xd,↓Xe,↓Xf,Tryz.VΓ,Tryz.Γs,Xp,Xi,Nat.reduceAdd,Nat.reduceSub,Nat.reduceLT,Nat.reduceLeDiff,reduceIte,reduceCtorEq,Nat.reduceEqDiff,implies_true,forall_const,lawV])
    refine ⟨fun h4 => (by rw [if_pos (by simpa using h4)]; rfl),fun h4 => ?_⟩
    rw [if_neg (by simpa using h4)]
    rfl
  · rw [if_neg hi] at pi
    rw [List.take_of_length_le (by omega)] at p1 ⊢
    rw [List.drop_eq_nil_of_le (by omega)] at p2 ⊢
    generalize didParse s2 = r1 at p1 ⊢
    generalize pctNorm inPath [] = r2 at p2 ⊢
    generalize pctNorm inQuery qu = r3 at p3 ⊢
    generalize pctNorm inQuery fr = r4 at p4 ⊢
    obtain ⟨⟨rm,ri⟩,e1⟩ := r1
    obtain ⟨r2,e2⟩ := r2
    obtain ⟨r3,e3⟩ := r3
    obtain ⟨r4,e4⟩ := r4
    unfold dsv at p1
    simp only at p1 p2 p3 p4 ⊢
    (refine callV_pc pi ?_; simp only [lawG,↓Xn,↓Xo,↓Xg,↓Xd,↓Xe,↓Xf,Tryz.VΓ,Tryz.Γs,Xp,Xi,Nat.reduceAdd,Nat.reduceSub,Nat.reduceLT,Nat.reduceLeDiff,reduceIte,reduceCtorEq,Nat.reduceEqDiff,implies_true,forall_const,lawV])
    refine ⟨fun k => absurd k (by simp),fun _ => ?_⟩
    (refine callV_pc p1 ?_; simp only [lawG,↓Xn,↓Xo,↓Xg,↓Xd,↓Xe,↓Xf,Tryz.VΓ,Tryz.Γs,Xp,Xi,Nat.reduceAdd,Nat.reduceSub,Nat.reduceLT,Nat.reduceLeDiff,reduceIte,reduceCtorEq,Nat.reduceEqDiff,implies_true,forall_const,lawV])
    refine ⟨fun h1 => (by rw [if_pos (by simpa using h1)]; rfl),fun h1 => ?_⟩
    rw [if_neg (by simpa using h1)]
    (refine callV_pc p2 ?_; simp only [lawG,↓Xn,↓Xo,↓Xg,↓Xd,↓Xe,↓Xf,Tryz.VΓ,Tryz.Γs,Xp,Xi,Nat.reduceAdd,Nat.reduceSub,Nat.reduceLT,Nat.reduceLeDiff,reduceIte,reduceCtorEq,Nat.reduceEqDiff,implies_true,forall_const,lawV])
    refine ⟨fun h2 => (by rw [if_pos (by simpa using h2)]; rfl),fun h2 => ?_⟩
    rw [if_neg (by simpa using h2)]
    (refine callV_pc p3 ?_; simp only [lawG,↓Xn,↓Xo,↓Xg,↓Xd,↓Xe,↓Xf,Tryz.VΓ,Tryz.Γs,Xp,Xi,Nat.reduceAdd,Nat.reduceSub,Nat.reduceLT,Nat.reduceLeDiff,reduceIte,reduceCtorEq,Nat.reduceEqDiff,implies_true,forall_const,lawV])
    refine ⟨fun h3 => (by rw [if_pos (by simpa using h3)]; rfl),fun h3 => ?_⟩
    rw [if_neg (by simpa using h3)]
    (refine callV_pc p4 ?_; simp only [lawG,↓Xn,↓Xo,↓Xg,↓Xd,↓Xe,↓Xf,Tryz.VΓ,Tryz.Γs,Xp,Xi,Nat.reduceAdd,Nat.reduceSub,Nat.reduceLT,Nat.reduceLeDiff,reduceIte,reduceCtorEq,Nat.reduceEqDiff,implies_true,forall_const,lawV])
    refine ⟨fun h4 => (by rw [if_pos (by simpa using h4)]; rfl),fun h4 => ?_⟩
    rw [if_neg (by simpa using h4)]
    rfl
def DidFits (d : Did) : Prop := d.method.length ≤ 140737488355328 ∧ d.id.length ≤ 140737488355328
theorem didText_len (d : Did) : (didText d).length = d.method.length + d.id.length + 5 := by simp [didText,didS]; omega
theorem p_did_FormatDID (d : Did) (h : DidFits d) : PC Tryz.V 25 [dsv d] (.str (didText d)) := by
  obtain ⟨m,i⟩ := d
  simp only [DidFits] at h
  refine pc_of 3000 Tryz.func25 rfl Tryz.ntmps25 Tryz.results25 Tryz.call25 (by simp) (by simp [flat,flat.flatL,dsv,dusv]) (by simp [flat,flat.flatL,dsv,dusv]) ?_
  unfold dsv
  simp only [lawG,↓Xn,↓Xo,↓Xg,↓Xd,↓Xe,↓Xf,Tryz.VΓ,Tryz.Γs,Xp,Xi,Nat.reduceAdd,Nat.reduceSub,Nat.reduceLT,Nat.reduceLeDiff,reduceIte,reduceCtorEq,Nat.reduceEqDiff,implies_true,forall_const,lawV]
  simp only [List.length_append,List.length_cons,List.length_nil]
  refine ⟨by omega,by omega,by omega,?_⟩
  simp [didText,didS]
set_option maxHeartbeats 2000000 in
theorem p_did_Resolve (d : Did) (r : Bytes) (h : DidFits d) (hr : r.length ≤ 140737488355328) : PC Tryz.V 67 [dsv d,.str r] (.tup [dusv (didResolve d r).1,.int .i64 (didResolve d r).2]) := by
  have pp := p_HasPrefix r didS
  rw [show Lib.hasPrefix r didS = didS.isPrefixOf r from rfl] at pp
  have pf := p_did_FormatDID d h
  have hl := didText_len d
  obtain ⟨h1,h2⟩ := h
  have pu := p_did_Parse r
  have pq := p_did_Parse (didText d ++ r)
  refine pc_of 3000 Tryz.func67 rfl Tryz.ntmps67 Tryz.results67 Tryz.call67 (by simp) (by simp [flat,flat.flatL,dsv,dusv]) (by simp [flat,flat.flatL,dsv,dusv]) ?_
  unfold dsv
  unfold dsv at pf
  unfold dusv at pu pq
  unfold didResolve
  simp only [lawG,↓Xn,↓Xo,↓Xg,↓Xd,↓Xe,↓Xf,Tryz.VΓ,Tryz.Γs,Xp,Xi,Nat.reduceAdd,Nat.reduceSub,Nat.reduceLT,Nat.reduceLeDiff,reduceIte,reduceCtorEq,Nat.reduceEqDiff,implies_true,forall_const,lawV]
  (refine callV_pc pp ?_; simp only [lawG,↓Xn,↓Xo,↓Xg,↓Xd,↓Xe,↓Xf,Tryz.VΓ,Tryz.Γs,Xp,Xi,Nat.reduceAdd,Nat.reduceSub,Nat.reduceLT,Nat.reduceLeDiff,reduceIte,reduceCtorEq,Nat.reduceEqDiff,implies_true,forall_const,lawV])
  refine ⟨fun h3 => ?_,fun h3 => ?_⟩
  · rw [if_pos h3]
    (refine callV_pc pu ?_; simp only [lawG,↓Xn,↓Xo,↓Xg,↓Xd,↓Xe,↓Xf,Tryz.VΓ,Tryz.Γs,Xp,Xi,Nat.reduceAdd,Nat.reduceSub,Nat.reduceLT,Nat.reduceLeDiff,reduceIte,reduceCtorEq,Nat.reduceEqDiff,implies_true,forall_const,lawV])
    rfl
  rw [if_neg (by rw [h3]; simp)]
  cases r with
  | nil =>
    rw [if_pos (.inl rfl)]
    rw [List.append_nil] at pq ⊢
    simp only [lawG,↓Xn,↓Xo,↓Xg,↓Xd,↓Xe,↓Xf,Tryz.VΓ,Tryz.Γs,Xp,Xi,Nat.reduceAdd,Nat.reduceSub,Nat.reduceLT,Nat.reduceLeDiff,reduceIte,reduceCtorEq,Nat.reduceEqDiff,implies_true,forall_const,lawV,beq_self_eq_true,bne_self_eq_false,Int.reduceBEq,Int.reduceBNe,Int.reduceLT,Int.reduceLE]
    (refine callV_pc pf ?_; simp only [lawG,↓Xn,↓Xo,↓Xg,↓Xd,↓Xe,↓Xf,Tryz.VΓ,Tryz.Γs,Xp,Xi,Nat.reduceAdd,Nat.reduceSub,Nat.reduceLT,Nat.reduceLeDiff,reduceIte,reduceCtorEq,Nat.reduceEqDiff,implies_true,forall_const,lawV,beq_self_eq_true,bne_self_eq_false,Int.reduceBEq,Int.reduceBNe,Int.reduceLT,Int.reduceLE])
    refine ⟨by omega,?_⟩
    (refine callV_pc pq ?_; simp only [lawG,↓Xn,↓Xo,↓Xg,↓Xd,↓Xe,↓Xf,Tryz.VΓ,Tryz.Γs,Xp,Xi,Nat.reduceAdd,Nat.reduceSub,Nat.reduceLT,Nat.reduceLeDiff,reduceIte,reduceCtorEq,Nat.reduceEqDiff,implies_true,forall_const,lawV,beq_self_eq_true,bne_self_eq_false,Int.reduceBEq,Int.reduceBNe,Int.reduceLT,Int.reduceLE])
    rfl
  | cons c r =>
    have hg : (c :: r).getD (Int.toNat 0) 0 = c := rfl
    have hc : (c :: r = [] ∨ (c :: r).head? = some 47 ∨ (c :: r).head? = some 63 ∨ (c :: r).head? = some 35) ↔ [47,63,35].contains c = true := by simp
    simp only [List.length_cons] at hr
    rw [hg,ite_congr (propext hc) (fun _ => rfl) (fun _ => rfl)]
    refine ⟨fun _ => ⟨⟨by omega,by simp⟩,?_⟩,fun h => (by simp at h)⟩
    (refine callV_pc (p_IndexByte [47,63,35] c) ?_; simp only [lawG,↓Xn,↓Xo,↓Xg,↓Xd,↓Xe,↓Xf,Tryz.VΓ,Tryz.Γs,Xp,Xi,Nat.reduceAdd,Nat.reduceSub,Nat.reduceLT,Nat.reduceLeDiff,reduceIte,reduceCtorEq,Nat.reduceEqDiff,implies_true,forall_const,lawV])
    rw [idx_geq]
    refine ⟨fun h4 => ?_,fun h4 => ?_⟩
    · rw [if_pos h4]
      (refine callV_pc pf ?_; simp only [lawG,↓Xn,↓Xo,↓Xg,↓Xd,↓Xe,↓Xf,Tryz.VΓ,Tryz.Γs,Xp,Xi,Nat.reduceAdd,Nat.reduceSub,Nat.reduceLT,Nat.reduceLeDiff,reduceIte,reduceCtorEq,Nat.reduceEqDiff,implies_true,forall_const,lawV])
      refine ⟨by omega,?_⟩
      (refine callV_pc pq ?_; simp only [lawG,↓Xn,↓Xo,↓Xg,↓Xd,↓Xe,↓Xf,Tryz.VΓ,Tryz.Γs,Xp,Xi,Nat.reduceAdd,Nat.reduceSub,Nat.reduceLT,Nat.reduceLeDiff,reduceIte,reduceCtorEq,Nat.reduceEqDiff,implies_true,forall_const,lawV])
      rfl
    · rw [if_neg (by rw [h4]; simp)]; rfl
end Go.Proofs.YtejfjmcjicpodaaGreatDoor
/- The walks of diddoc's decoder: fail,texts,member,array,list,oneOrMore,id. -/
set_option linter.all false
set_option maxRecDepth 20000
namespace Go.Proofs.YtejfjmcjicpodaaGreatDoor
open Go Vc Go.RowKit Wf
set_option linter.unusedSimpArgs false
end Go.Proofs.YtejfjmcjicpodaaGreatDoor
namespace Vc
open Go.Proofs.YtejfjmcjicpodaaGreatDoor
open Go Vc Go.RowKit Wf
theorem KpP.ro {p : Nat} {c c' : List SV} {T T' : TypeId} {m m' : Bool} {bs b : List Res} (hp : bs[p]? = some (.cells c' T' m')) (h : KpP p c T m bs b) : Ro bs b := fun j c e s n x => by
  have hn : j ≠ p := by rintro rfl; rw [hp] at x; cases x
  exact h.at x hn
end Vc
namespace Go.Proofs.YtejfjmcjicpodaaGreatDoor
open Go Vc Go.RowKit Wf
def Rn (lo : Nat) (b : List Res) (x : SV) (T : List Bytes) : Prop := (x = .nils ∧ T = []) ∨ ∃ q,0 < T.length ∧ x = .o q T.length ∧ lo ≤ q ∧ b[q]? = some (.own (T.map SV.str) 9 1 T.length false)
theorem Rn.ro {lo : Nat} {a b : List Res} {x : SV} {T : List Bytes} (h : Rn lo a x T) (k : Ro a b) : Rn lo b x T := by
  rcases h with h | ⟨q,h0,h1,h2,h3⟩
  · exact .inl h
  · exact .inr ⟨q,h0,h1,h2,k _ _ _ _ _ h3⟩
theorem Rn.rs {lo : Nat} {b : List Res} {x : SV} {T : List Bytes} (h : Rn lo b x T) : Rs b x T := by
  rcases h with h | ⟨q,h0,h1,h2,h3⟩
  · exact .inl h
  · exact .inr ⟨q,h1,h3⟩
theorem Rn.one {lo : Nat} {b : List Res} {x : SV} {T : List Bytes} (h : Rn lo b x T) : Vc.one x = true := h.rs.one
theorem Rn.within {lo : Nat} {b : List Res} {x : SV} {T : List Bytes} (h : Rn lo b x T) : Vc.within b.length x = true := h.rs.within
theorem Rn.cells {lo : Nat} {b : List Res} {x : SV} {T : List Bytes} (h : Rn lo b x T) : Vc.cells x = [x] := by
  rcases h with ⟨rfl,-⟩ | ⟨q,-,rfl,-⟩ <;> rfl
end Go.Proofs.YtejfjmcjicpodaaGreatDoor
/- The walks of diddoc's decoder: array,list,member,oneOrMore,id. -/
set_option linter.all false
set_option maxRecDepth 20000
namespace Go.Proofs.YtejfjmcjicpodaaGreatDoor
open Go Vc Go.RowKit Wf
set_option linter.unusedSimpArgs false
theorem TJs.one {b : List Res} {j : Jv} {v : Tv} (h : TJ b j v) : TJs b [j] [v] := by
  rw [TJs]; exact ⟨v,[],rfl,h,by rw [TJs]⟩
end Go.Proofs.YtejfjmcjicpodaaGreatDoor
/- The walks of diddoc's decoder: id,service. -/
set_option linter.all false
set_option maxRecDepth 20000
namespace Go.Proofs.YtejfjmcjicpodaaGreatDoor
open Go Vc Go.RowKit Wf
set_option linter.unusedSimpArgs false
end Go.Proofs.YtejfjmcjicpodaaGreatDoor
/- The walk of diddoc.Decode. -/
set_option linter.all false
set_option maxRecDepth 20000
namespace Go.Proofs.YtejfjmcjicpodaaGreatDoor
open Go Vc Go.RowKit Wf
set_option linter.unusedSimpArgs false
def mc (m : Mtm) : List SV := [.str m.id,.str m.type,.str m.ctrl]
structure Sq where
  m : Svm
  y1 : SV
  y2 : SV
def sqc (q : Sq) : List SV := [.str q.m.id,q.y1,q.y2]
def SqOk (b : List Res) (q : Sq) : Prop := Rs b q.y1 q.m.types ∧ Rs b q.y2 q.m.ends
theorem SqOk.ro {a b : List Res} {q : Sq} (h : SqOk a q) (k : Ro a b) : SqOk b q := ⟨h.1.ro k,h.2.ro k⟩
def Rm (b : List Res) (x : SV) (M : List Mtm) : Prop := (x = .nils ∧ M = []) ∨ ∃ j,x = .o j M.length ∧ b[j]? = some (.own (M.flatMap mc) 48 3 M.length false)
def Rq (b : List Res) (x : SV) (Q : List Sq) : Prop := (x = .nils ∧ Q = []) ∨ ∃ j,x = .o j Q.length ∧ b[j]? = some (.own (Q.flatMap sqc) 46 3 Q.length false)
theorem Rm.ro {a b : List Res} {x : SV} {M : List Mtm} (h : Rm a x M) (k : Ro a b) : Rm b x M := by
  rcases h with h | ⟨j,h1,h2⟩
  · exact .inl h
  · exact .inr ⟨j,h1,k _ _ _ _ _ h2⟩
theorem Rq.ro {a b : List Res} {x : SV} {Q : List Sq} (h : Rq a x Q) (k : Ro a b) : Rq b x Q := by
  rcases h with h | ⟨j,h1,h2⟩
  · exact .inl h
  · exact .inr ⟨j,h1,k _ _ _ _ _ h2⟩
theorem Rm.one {b : List Res} {x : SV} {M : List Mtm} (h : Rm b x M) : Vc.one x = true := by
  rcases h with ⟨rfl,-⟩ | ⟨j,rfl,-⟩ <;> rfl
theorem Rq.one {b : List Res} {x : SV} {Q : List Sq} (h : Rq b x Q) : Vc.one x = true := by
  rcases h with ⟨rfl,-⟩ | ⟨j,rfl,-⟩ <;> rfl
def DocR (b : List Res) (c : List SV) (D : Docm) : Prop := ∃ xa xc xm xs Q,c = [.str D.id,xa,xc,xm,xs] ∧ Rs b xa D.also ∧ Rs b xc D.ctrl ∧ Rm b xm D.methods ∧ Rq b xs Q ∧ (∀ q ∈ Q,SqOk b q) ∧ Q.map Sq.m = D.services
theorem DocR.none (b : List Res) : DocR b [.str [],.nils,.nils,.nils,.nils] Docm.none := ⟨.nils,.nils,.nils,.nils,[],rfl,.inl ⟨rfl,rfl⟩,.inl ⟨rfl,rfl⟩,.inl ⟨rfl,rfl⟩,.inl ⟨rfl,rfl⟩,by simp,rfl⟩
theorem Rs.cells {b : List Res} {x : SV} {T : List Bytes} (h : Rs b x T) : Vc.cells x = [x] := by
  rcases h with ⟨rfl,-⟩ | ⟨q,rfl,-⟩ <;> rfl
end Go.Proofs.YtejfjmcjicpodaaGreatDoor
/- Calls with one outcome: where each call has one,the whole walk has one. -/
set_option linter.all false
namespace Vc
open Go Go.RowKit Wf
def SU (V : Cx) (f : FuncId) (args : List SV) (bs : List Res) (R : SV → List Res → Prop) : Prop := ∃ x b,R x b ∧ SC V f args bs (fun r b' => r = x ∧ b' = b)
section
variable {V : Cx} {f : FuncId} {args : List SV} {bs : List Res} {R R' : SV → List Res → Prop}
theorem SU.sc (h : SU V f args bs R) : SC V f args bs R := by
  obtain ⟨x,b,hR,h⟩ := h
  exact h.mono (by rintro _ _ ⟨rfl,rfl⟩; exact hR)
theorem SU.mono (h : SU V f args bs R) (k : ∀ x b,R x b → R' x b) : SU V f args bs R' := by
  obtain ⟨x,b,hR,h⟩ := h
  exact ⟨x,b,k x b hR,h⟩
theorem SU.of {x : SV} {b : List Res} (h : SC V f args bs (fun r b' => r = x ∧ b' = b)) (k : R x b) : SU V f args bs R := ⟨x,b,k,h⟩
end
inductive DItem where
  | dops (ops : Array Oper) (l : List Oper) (rs : List Rk)
  | code (c : Code)
  | ops (ops : Array Oper) (l : List Oper)
  | endb (id : Nat)
  | dl (I : St → Prop) (μ : St → Nat) (m : Nat) (P : SV × List Res → St → Prop)
def base : List DItem → List Item
  | [] => []
  | .dops ops l rs :: k => .dops ops l rs :: base k
  | .code c :: k => .code c :: base k
  | .ops ops l :: k => .ops ops l :: base k
  | .endb id :: k => .endb id :: base k
  | .dl I μ m _ :: k => .endl I μ m :: base k
def okI (E : Fin) (D : List DItem) : Prop := ∀ I μ m P,DItem.dl I μ m P ∈ D → ∀ σ,I σ → μ σ < m → ∃ o : SV × List Res,E.K o.1 o.2 ∧ P o σ
section
variable {V : Cx} {n : Nat}
theorem okI.cons {E : Fin} {D : List DItem} (h : okI E D) (i : DItem) (hi : ∀ I μ m P,i ≠ .dl I μ m P) : okI E (i :: D) := fun I μ m P hm => by
  rcases List.mem_cons.1 hm with e | hm
  · exact absurd e.symm (hi _ _ _ _)
  · exact h I μ m P hm
theorem vcS_cutS {E : Fin} {f : Nat} {A B : Code} {k : List Item} {σ0 : St} (g : Nat) (J : St → Prop) (h1 : ∀ m σ,J σ → vcS V n E (m + g) (.code B :: k) σ) (h2 : ∀ k',(∀ m σ,J σ → vcS V n E (m + g) k' σ) → vcS V n E f (.code A :: k') σ0) : vcS V n E (f + 1) (.code (.seq A B) :: k) σ0 := by
  simp only [vcS]
  exact h2 _ h1
end
end Vc
/- ref02: some exact results: Encode,value,Decode. -/
set_option linter.all false
set_option maxRecDepth 20000
namespace Go.Proofs.YtejfjmcjicpodaaGreatDoor
open Go Vc Go.RowKit Wf
set_option linter.unusedSimpArgs false
end Go.Proofs.YtejfjmcjicpodaaGreatDoor
/- The walks of ref04: parse,Parse,Hex. -/
set_option linter.all false
set_option maxRecDepth 20000
namespace Go.Proofs.YtejfjmcjicpodaaGreatDoor
open Go Vc Go.RowKit Wf
set_option linter.unusedSimpArgs false
end Go.Proofs.YtejfjmcjicpodaaGreatDoor
/- ref13: some exact results: white,tail,run,numeral,exponent,unit. -/
set_option linter.all false
set_option maxRecDepth 20000
namespace Go.Proofs.YtejfjmcjicpodaaGreatDoor
open Go Vc Go.RowKit Wf
set_option linter.unusedSimpArgs false
end Go.Proofs.YtejfjmcjicpodaaGreatDoor
/- ref13: some exact results: numeral,unit,Number; ref04.Format. -/
set_option linter.all false
set_option maxRecDepth 20000
namespace Go.Proofs.YtejfjmcjicpodaaGreatDoor
open Go Vc Go.RowKit Wf
set_option linter.unusedSimpArgs false
end Go.Proofs.YtejfjmcjicpodaaGreatDoor
/- ref13: some exact results: escape,text. -/
set_option linter.all false
set_option maxRecDepth 20000
namespace Go.Proofs.YtejfjmcjicpodaaGreatDoor
open Go Vc Go.RowKit Wf
set_option linter.unusedSimpArgs false
end Go.Proofs.YtejfjmcjicpodaaGreatDoor
/- ref13: some exact result of Next. -/
set_option linter.all false
set_option maxRecDepth 20000
namespace Go.Proofs.YtejfjmcjicpodaaGreatDoor
open Go Vc Go.RowKit Wf
set_option linter.unusedSimpArgs false
def NexF (s : Bytes) (a : Nat) (x : SV) : Prop := ∃ (k : Int) (u : Bytes) (p q e : Int),x = .tup [.agg [.int .i64 k,.str u,.int .i64 p],.int .i64 q,.int .i64 e] ∧ (e = 0 → ∃ q' : Nat,q = q' ∧ a ≤ q' ∧ q' ≤ s.length ∧ u.length ≤ s.length ∧ (k = 1 ∨ a < q'))
theorem NexF.ok {s : Bytes} {a : Nat} {k p : Int} {u : Bytes} {q : Nat} (h1 : a ≤ q) (h2 : q ≤ s.length) (h3 : u.length ≤ s.length) (h4 : k = 1 ∨ a < q) : NexF s a (.tup [.agg [.int .i64 k,.str u,.int .i64 p],.int .i64 q,.int .i64 0]) := ⟨_,_,_,_,_,rfl,fun _ => ⟨q,rfl,h1,h2,h3,h4⟩⟩
end Go.Proofs.YtejfjmcjicpodaaGreatDoor
/- ref14's parser: stop,next,is,word; the bounds of trees. -/
set_option linter.all false
set_option maxRecDepth 20000
namespace Go.Proofs.YtejfjmcjicpodaaGreatDoor
open Go Vc Go.RowKit Wf
set_option linter.unusedSimpArgs false
mutual
def JB (B : Nat) : Jv → Prop
  | .mk _ t K L => t.length ≤ B ∧ K.length ≤ B ∧ (∀ s ∈ K,s.length ≤ B) ∧ L.length ≤ B ∧ JBs B L
def JBs (B : Nat) : List Jv → Prop
  | [] => True
  | j :: L => JB B j ∧ JBs B L
end
def pcl (s : Bytes) (a n : Nat) (f w : Int) : List SV := [.str s,.int .i64 a,.int .i64 n,.int .i64 f,.int .i64 w]
def tok (k : Int) (u : Bytes) (p : Int) : List SV := [.int .i64 k,.str u,.int .i64 p]
def pbox (s : Bytes) (a n : Nat) (f w : Int) : Res := .cells (pcl s a n f w) 53 true
theorem app_set0 (b l : List Res) (Y : Res) : (b ++ l).set b.length Y = b ++ l.set 0 Y := by
  rw [List.set_append_right _ _ (by simp)]; simp
end Go.Proofs.YtejfjmcjicpodaaGreatDoor
/- JSON values and DID documents among the arguments. -/
set_option linter.all false
namespace Go.Proofs.YtejfjmcjicpodaaGreatDoor
open Go Vc Go.RowKit Wf
open Go.ChangeShapes Go.WideShapes Go.ChangeAt
open Go.WideMaps Go.WideElems
section
variable {H : Type} {enc : TypeId × Value → H} {w : World} {held : Bool}
abbrev bsL (l : List (Bt × Res)) : List Res := l.map (·.2)
def WOk (t : TypeId) (d : DataW H) : Prop := ∀ k ∈ d.weights Tryz.prog t,k ≤ reachBytes
theorem WOk.elem {t e : TypeId} (ht : Tryz.prog.underlying t = some (.slice e)) {L sp : List (DataW H)} (h : WOk t (.slice L sp)) : ∀ d ∈ L,WOk e d := fun d hd k hk => h k (by
  simp only [DataW.weights,ht,List.mem_cons,List.mem_append]
  right; left
  clear h
  induction L with
  | nil => cases hd
  | cons q L ih =>
    simp only [DataW.weightsAll,List.mem_append]
    rcases List.mem_cons.1 hd with rfl | hd
    · exact .inl hk
    · exact .inr (ih hd))
theorem WOk.len {t e : TypeId} (ht : Tryz.prog.underlying t = some (.slice e)) (he : 0 < Tryz.prog.bytesOf e) {ρ : Type} {L : List ρ} {d : DataW H} (h : WOk t d) (hL : L = [] ∨ ∃ Le sp,d = .slice Le sp ∧ Le.length = L.length) : L.length ≤ 140737488355328 := by
  rcases hL with rfl | ⟨Le,sp,rfl,hl⟩
  · simp
  · have h1 := h ((Le.length + sp.length) * Tryz.prog.bytesOf e) (by simp [DataW.weights,ht])
    have h2 : (Le.length + sp.length) * 1 ≤ (Le.length + sp.length) * Tryz.prog.bytesOf e := Nat.mul_le_mul_left _ he
    have h3 : reachBytes ≤ 140737488355328 := by decide
    omega
theorem WOk.field {t u : TypeId} {fs : Array Field} (ht : Tryz.prog.underlying t = some (.struct fs)) {parts : List (DataW H)} (h : WOk t (.agg parts)) {j : Nat} {d : DataW H} (hj : (fs.toList.map (·.type))[j]? = some u) (hd : parts[j]? = some d) : WOk u d := fun k hk => h k (weights_field ht hj hd hk)
theorem WOk.str {s : List UInt8} {t : TypeId} (h : WOk (H := H) t (.lit (.string s))) : s.length ≤ 140737488355328 := Nat.le_trans (h _ (by simp [DataW.weights])) (by decide)
theorem bsL_ro (l m : List (Bt × Res)) : Ro (bsL l) (bsL (l ++ m)) := fun j c e s n h => by
  unfold bsL at h ⊢
  rw [List.map_append,List.getElem?_append_left (List.getElem?_eq_some_iff.1 h).1]; exact h
theorem open_strs {l : List (Bt × Res)} (hl : OpenL w l) {c : Value} {x : DataW H × List MemPlace} {M : Nat} (h : DataW.trod enc Tryz.prog w 0 (fun _ => true) held M 22 [c] = some x) (hW : WOk 22 x.1) :
    ∃ ls y L,OpenL w (l ++ ls) ∧ (∀ β,Ext β (l ++ ls) → c = conc β y) ∧ Rs (bsL (l ++ ls)) y L ∧ L.length ≤ 140737488355328 ∧ (∀ s ∈ L,s.length ≤ 140737488355328) ∧ (L = [] ∨ ∃ Le sp,x.1 = .slice Le sp ∧ Le.length = L.length) := by
  obtain ⟨ls,y,L,g1,g2,g3,g4,g5,g6⟩ := open_rowsN (ρ := Bytes) (fun s => [SV.str s]) (fun _ s => s.length ≤ 140737488355328) (fun _ _ _ h => h) (s := 1) (m := M) (by omega) Tryz.underlying22 (by kernel_rfl) (WOk 9) (fun l hl cs x hx hw => by
    obtain ⟨⟨⟨a⟩⟩,rfl,rfl,-⟩ := DataW.trod_string Tryz.underlying9 hx
    exact ⟨[],a,by rw [List.append_nil]; exact hl,fun β _ => by simp [conc],hw.str⟩) hl (Nat.le_succ M) h (fun L sp e => by rw [e] at hW; exact hW.elem Tryz.underlying22)
  refine ⟨ls,y,L,g1,g3,?_,hW.len Tryz.underlying22 (of_decide_eq_true (by kernel_rfl)) g6,g5,g6⟩
  rcases g4 with g4 | ⟨i,h1,h2⟩
  · exact .inl g4
  · refine .inr ⟨i,h1,?_⟩
    rw [show L.map SV.str = L.flatMap (fun s => [SV.str s]) from by rw [List.map_eq_flatMap]]
    exact h2
theorem TJ.bs {l m : List (Bt × Res)} {j : Jv} {v : Tv} (h : TJ (bsL l) j v) : TJ (bsL (l ++ m)) j v := h.ro (bsL_ro l m)
end
end Go.Proofs.YtejfjmcjicpodaaGreatDoor
/- The walks of ref01.Same and ref17.Same at equal documents. -/
set_option linter.all false
set_option maxRecDepth 20000
namespace Go.Proofs.YtejfjmcjicpodaaGreatDoor
open Go Vc Go.RowKit Wf
set_option linter.unusedSimpArgs false
theorem mc_at (L : List Mtm) (k : Nat) (h : k < L.length) : ((L.flatMap mc).drop (k * 3)).take 3 = mc L[k] := rows_at mc 3 (fun _ => rfl) L k h
theorem mc_len (L : List Mtm) : (L.flatMap mc).length = L.length * 3 := rows_len mc 3 (fun _ => rfl) L
theorem sqc_at (L : List Sq) (k : Nat) (h : k < L.length) : ((L.flatMap sqc).drop (k * 3)).take 3 = sqc L[k] := rows_at sqc 3 (fun _ => rfl) L k h
theorem sqc_len (L : List Sq) : (L.flatMap sqc).length = L.length * 3 := rows_len sqc 3 (fun _ => rfl) L
theorem Rm.len {b : List Res} {x : SV} {L : List Mtm} (h : Rm b x L) (e : TypeId) : lenS (.slice e) x = some (.int .i64 L.length) := by
  rcases h with ⟨rfl,rfl⟩ | ⟨j,rfl,-⟩ <;> rfl
theorem Rq.len {b : List Res} {x : SV} {L : List Sq} (h : Rq b x L) (e : TypeId) : lenS (.slice e) x = some (.int .i64 L.length) := by
  rcases h with ⟨rfl,rfl⟩ | ⟨j,rfl,-⟩ <;> rfl
theorem Rm.within {b : List Res} {x : SV} {L : List Mtm} (h : Rm b x L) : Vc.within b.length x = true := by
  rcases h with ⟨rfl,-⟩ | ⟨j,rfl,h2⟩
  · rfl
  · have := (List.getElem?_eq_some_iff.1 h2).1
    simp [Vc.within,this]
theorem Rq.within {b : List Res} {x : SV} {L : List Sq} (h : Rq b x L) : Vc.within b.length x = true := by
  rcases h with ⟨rfl,-⟩ | ⟨j,rfl,h2⟩
  · rfl
  · have := (List.getElem?_eq_some_iff.1 h2).1
    simp [Vc.within,this]
end Go.Proofs.YtejfjmcjicpodaaGreatDoor
/- ref14.Same of one tree with itself. -/
set_option linter.all false
set_option maxRecDepth 20000
namespace Go.Proofs.YtejfjmcjicpodaaGreatDoor
open Go Vc Go.RowKit Wf
set_option linter.unusedSimpArgs false
theorem szJ {j x : Jv} (h : x ∈ j.L) : SizeOf.sizeOf x < SizeOf.sizeOf j := by
  cases j with
  | mk k t K L =>
    have := List.sizeOf_lt_of_mem (show x ∈ L from h)
    simp only [Jv.mk.sizeOf_spec]
    omega
set_option maxHeartbeats 16000000 in
theorem sc_r14_SameN : ∀ (N : Nat) {bs : List Res} {j : Jv} {v v' : Tv},SizeOf.sizeOf j < N → TJ bs j v → TJ bs j v' → SC Tryz.V 15 [.agg (tv v),.agg (tv v')] bs (fun r b => r = .bool true ∧ b = bs)
  | 0,_,_,_,_,h,_,_ => by omega
  | N + 1,bs,j,v,v',hN,h,h' => by
    refine sc_forget (by simp [flat]) ?_
    have ih := fun (x : Jv) (hx : x ∈ j.L) (X : List Res) (y y' : Tv) (hy : TJ bs x y) (hy' : TJ bs x y') => sc_r14_SameN N (bs := bs ++ X) (by have := szJ hx; omega) (hy.ro ((Ro.refl bs).app X)) (hy'.ro ((Ro.refl bs).app X))
    obtain ⟨v1,v2,v3,v4⟩ := h.tin
    obtain ⟨w1,w2,w3,w4⟩ := h'.tin
    have ho : (one v.xk && one v.xi) = true := by rw [v3,v4]; rfl
    have ho' : (one v'.xk && one v'.xi) = true := by rw [w3,w4]; rfl
    obtain ⟨e1,e2,-,e4,e5,-,e7,Ls,e8,e9⟩ := h.un
    obtain ⟨d1,d2,-,d4,-,-,-,Ms,d8,d9⟩ := h'.un
    have hL := e9.len
    have hM := d9.len
    have n1 := e4.len'
    have n2 := d4.len'
    have n3 := e8.len
    have n4 := d8.len
    rw [hL] at n3
    rw [hM] at n4
    refine sc_of 3000 Tryz.func15 rfl Tryz.ntmps15 Tryz.results15 Tryz.call15 (by simp) (fun β β' hb => concL_within bs.length _ (by simp [within,within.withinL,tv,v1,v2,w1,w2]) β β' hb) ?_
    unfold tv
    rw [e1,e2,d1,d2]
    refine vcS_cutS 2900 (fun σ => lk 2 σ.t = some (.p bs.length 0) ∧ lk 3 σ.t = some (.p (bs.length + 1) 0) ∧ σ.b = bs ++ [.cells [.int .i64 j.k,.str j.t,v.xk,v.xi] 25 true,.cells [.int .i64 j.k,.str j.t,v'.xk,v'.xi] 25 true]) ?_ (fun k' hk' => ?_)
    rotate_left
    · simp only [lawG,↓Xn,↓Xo,↓Xg,↓Xd,↓Xe,↓Xf,Tryz.VΓ,Tryz.Γs,Xp,Xi,Nat.reduceAdd,Nat.reduceSub,Nat.reduceLT,Nat.reduceLeDiff,reduceIte,reduceCtorEq,Nat.reduceEqDiff,implies_true,forall_const,lawV,lawA,beq_self_eq_true,bne_self_eq_false,Int.reduceBEq,Int.reduceBNe,Int.reduceLT,Int.reduceLE,ho,ho']
      exact hk' _ _ ⟨rfl,rfl,rfl⟩
    rintro m ⟨t,b⟩ ⟨h2,h3,rfl⟩
    simp only at h2 h3
    refine vcS_cutS 2800 (fun σ => lk 2 σ.t = some (.p bs.length 0) ∧ lk 3 σ.t = some (.p (bs.length + 1) 0) ∧ σ.b = bs ++ [.cells [.int .i64 j.k,.str j.t,v.xk,v.xi] 25 true,.cells [.int .i64 j.k,.str j.t,v'.xk,v'.xi] 25 true]) ?_ (fun k' hk' => ?_)
    rotate_left
    · simp only [lawG,↓Xn,↓Xo,↓Xg,↓Xd,↓Xe,↓Xf,Tryz.VΓ,Tryz.Γs,Xp,Xi,Nat.reduceAdd,Nat.reduceSub,Nat.reduceLT,Nat.reduceLeDiff,reduceIte,reduceCtorEq,Nat.reduceEqDiff,implies_true,forall_const,lawV,lawA,beq_self_eq_true,bne_self_eq_false,Int.reduceBEq,Int.reduceBNe,Int.reduceLT,Int.reduceLE,h2,h3,v3,v4,w3,w4,n1,n2,n3,n4]
      exact hk' _ _ ⟨by simp [lk,h2],by simp [lk,h3],rfl⟩
    rintro m ⟨t,b⟩ ⟨h2,h3,rfl⟩
    simp only at h2 h3
    refine vcS_cutS 2700 (fun σ => lk 2 σ.t = some (.p bs.length 0) ∧ lk 3 σ.t = some (.p (bs.length + 1) 0) ∧ σ.b = bs ++ [.cells [.int .i64 j.k,.str j.t,v.xk,v.xi] 25 true,.cells [.int .i64 j.k,.str j.t,v'.xk,v'.xi] 25 true]) ?_ (fun k' hk' => ?_)
    rotate_left
    · simp only [lawG,↓Xn,↓Xo,↓Xg,↓Xd,↓Xe,↓Xf,Tryz.VΓ,Tryz.Γs,Xp,Xi,Nat.reduceAdd,Nat.reduceSub,Nat.reduceLT,Nat.reduceLeDiff,reduceIte,reduceCtorEq,Nat.reduceEqDiff,implies_true,forall_const,lawV,lawA,beq_self_eq_true,bne_self_eq_false,Int.reduceBEq,Int.reduceBNe,Int.reduceLT,Int.reduceLE,h2,h3,v4,n3]
      refine loopV_mk (fun σ => ∃ k : Nat,k ≤ j.L.length ∧ lk 2 σ.t = some (.p bs.length 0) ∧ lk 3 σ.t = some (.p (bs.length + 1) 0) ∧ lk 39 σ.t = some (.int .i64 j.L.length) ∧ lk 40 σ.t = some (.int .i64 k) ∧ σ.b = bs ++ [.cells [.int .i64 j.k,.str j.t,v.xk,v.xi] 25 true,.cells [.int .i64 j.k,.str j.t,v'.xk,v'.xi] 25 true]) (fun σ => j.L.length - lkI 40 σ) ⟨0,by omega,by simp [lk,h2],by simp [lk,h3],rfl,rfl,rfl⟩ ?_
      rintro ⟨t,b⟩ ⟨k,hk,h2,h3,h39,h40,hb⟩
      simp only at h2 h3 h39 h40 hb
      subst hb
      rw [lkI_eq h40]
      by_cases hlt : k < j.L.length
      · have hlt2 : decide ((k : Int) < j.L.length) = true := decide_eq_true (by omega)
        rcases e8 with ⟨-,hx0⟩ | ⟨i,hi1,hi⟩
        · rw [hx0] at hL; simp at hL; omega
        rcases d8 with ⟨-,hx0⟩ | ⟨q,hq1,hq⟩
        · rw [hx0] at hM; simp at hM; omega
        have k1 : k < Ls.length := by omega
        have k2 : k < Ms.length := by omega
        have hu : List.take 4 (List.drop (k * 4) (Ls.flatMap tv)) = [.int .i64 Ls[k].k,.str Ls[k].t,Ls[k].xk,Ls[k].xi] := tv_at Ls k k1
        have hu' : List.take 4 (List.drop (k * 4) (Ms.flatMap tv)) = [.int .i64 Ms[k].k,.str Ms[k].t,Ms[k].xk,Ms[k].xi] := tv_at Ms k k2
        have hul := tv_len Ls
        have hul' := tv_len Ms
        obtain ⟨-,-,x3,x4⟩ := e9.tin Ls[k] (List.getElem_mem k1)
        obtain ⟨-,-,y3,y4⟩ := d9.tin Ms[k] (List.getElem_mem k2)
        have hxo : (one Ls[k].xk && one Ls[k].xi) = true := by rw [x3,x4]; rfl
        have hyo : (one Ms[k].xk && one Ms[k].xi) = true := by rw [y3,y4]; rfl
        have hc := fun X => ih j.L[k] (List.getElem_mem hlt) X _ _ (e9.at k hlt k1) (d9.at k hlt k2)
        unfold tv at hc
        rw [hi1,hq1] at *
        simp only [lawG,↓Xn,↓Xo,↓Xg,↓Xd,↓Xe,↓Xf,Tryz.VΓ,Tryz.Γs,Xp,Xi,Nat.reduceAdd,Nat.reduceSub,Nat.reduceLT,Nat.reduceLeDiff,reduceIte,reduceCtorEq,Nat.reduceEqDiff,implies_true,forall_const,lawV,lawA,beq_self_eq_true,bne_self_eq_false,Int.reduceBEq,Int.reduceBNe,Int.reduceLT,Int.reduceLE,h2,h3,h39,h40,hlt2,v4,w4,at_old hi,at_old hq,hu,hu',hul,hul',hxo,hyo]
        (repeat (refine ⟨by first | omega | (unfold maxLen; omega),?_⟩))
        refine callD_scw [] (hc _) (fun _ _ _ => rfl) ?_
        simp only [lawG,↓Xn,↓Xo,↓Xg,↓Xd,↓Xe,↓Xf,Tryz.VΓ,Tryz.Γs,Xp,Xi,Nat.reduceAdd,Nat.reduceSub,Nat.reduceLT,Nat.reduceLeDiff,reduceIte,reduceCtorEq,Nat.reduceEqDiff,implies_true,forall_const,lawV,lawA,beq_self_eq_true,bne_self_eq_false,Int.reduceBEq,Int.reduceBNe,Int.reduceLT,Int.reduceLE,h2,h3,h39,h40,Bool.not_true]
        refine ⟨(OkD_fast (by kernel_rfl)),?_⟩
        (repeat (refine ⟨by first | omega | (unfold maxLen; omega),?_⟩))
        refine ⟨⟨k + 1,by omega,rfl⟩,?_⟩
        rw [lkI_eq (k := .i64) (n := (k : Int) + 1) rfl]; omega
      · have hlt2 : decide ((k : Int) < j.L.length) = false := decide_eq_false (by omega)
        simp only [lawG,↓Xn,↓Xo,↓Xg,↓Xd,↓Xe,↓Xf,Tryz.VΓ,Tryz.Γs,Xp,Xi,Nat.reduceAdd,Nat.reduceSub,Nat.reduceLT,Nat.reduceLeDiff,reduceIte,reduceCtorEq,Nat.reduceEqDiff,implies_true,forall_const,lawV,lawA,beq_self_eq_true,bne_self_eq_false,Int.reduceBEq,Int.reduceBNe,Int.reduceLT,Int.reduceLE,h2,h3,h39,h40,hlt2]
        exact hk' _ _ ⟨by simp [lk,h2],by simp [lk,h3],rfl⟩
    rintro m ⟨t,b⟩ ⟨h2,h3,rfl⟩
    simp only at h2 h3
    refine vcS_cutS 2600 (fun σ => Kp bs σ.b) ?_ (fun k' hk' => ?_)
    rotate_left
    · simp only [lawG,↓Xn,↓Xo,↓Xg,↓Xd,↓Xe,↓Xf,Tryz.VΓ,Tryz.Γs,Xp,Xi,Nat.reduceAdd,Nat.reduceSub,Nat.reduceLT,Nat.reduceLeDiff,reduceIte,reduceCtorEq,Nat.reduceEqDiff,implies_true,forall_const,lawV,lawA,beq_self_eq_true,bne_self_eq_false,Int.reduceBEq,Int.reduceBNe,Int.reduceLT,Int.reduceLE,h2,h3,v3,n1]
      refine loopV_mk (fun σ => ∃ k : Nat,k ≤ j.K.length ∧ lk 2 σ.t = some (.p bs.length 0) ∧ lk 3 σ.t = some (.p (bs.length + 1) 0) ∧ lk 58 σ.t = some (.int .i64 j.K.length) ∧ lk 59 σ.t = some (.int .i64 k) ∧ σ.b = bs ++ [.cells [.int .i64 j.k,.str j.t,v.xk,v.xi] 25 true,.cells [.int .i64 j.k,.str j.t,v'.xk,v'.xi] 25 true]) (fun σ => j.K.length - lkI 59 σ) ⟨0,by omega,by simp [lk,h2],by simp [lk,h3],rfl,rfl,rfl⟩ ?_
      rintro ⟨t,b⟩ ⟨k,hk,h2,h3,h58,h59,hb⟩
      simp only at h2 h3 h58 h59 hb
      subst hb
      rw [lkI_eq h59]
      by_cases hlt : k < j.K.length
      · have hlt2 : decide ((k : Int) < j.K.length) = true := decide_eq_true (by omega)
        rcases e4 with ⟨-,hx0⟩ | ⟨i,hi1,hi⟩
        · rw [hx0] at hlt; exact absurd hlt (by simp)
        rcases d4 with ⟨-,hx0⟩ | ⟨q,hq1,hq⟩
        · rw [hx0] at hlt; exact absurd hlt (by simp)
        have hkt : (j.K.map SV.str)[k * 1]? = some (.str j.K[k]) := by simp [hlt]
        have hkl : (j.K.map SV.str).length = j.K.length := List.length_map ..
        rw [hi1,hq1] at *
        simp only [lawG,↓Xn,↓Xo,↓Xg,↓Xd,↓Xe,↓Xf,Tryz.VΓ,Tryz.Γs,Xp,Xi,Nat.reduceAdd,Nat.reduceSub,Nat.reduceLT,Nat.reduceLeDiff,reduceIte,reduceCtorEq,Nat.reduceEqDiff,implies_true,forall_const,lawV,lawA,beq_self_eq_true,bne_self_eq_false,Int.reduceBEq,Int.reduceBNe,Int.reduceLT,Int.reduceLE,h2,h3,h58,h59,hlt2,v3,w3,at_old hi,at_old hq,hkt,hkl]
        (repeat (refine ⟨by first | omega | (unfold maxLen; omega),?_⟩))
        refine ⟨(OkD_fast (by kernel_rfl)),?_⟩
        (repeat (refine ⟨by first | omega | (unfold maxLen; omega),?_⟩))
        refine ⟨⟨k + 1,by omega,rfl⟩,?_⟩
        rw [lkI_eq (k := .i64) (n := (k : Int) + 1) rfl]; omega
      · have hlt2 : decide ((k : Int) < j.K.length) = false := decide_eq_false (by omega)
        simp only [lawG,↓Xn,↓Xo,↓Xg,↓Xd,↓Xe,↓Xf,Tryz.VΓ,Tryz.Γs,Xp,Xi,Nat.reduceAdd,Nat.reduceSub,Nat.reduceLT,Nat.reduceLeDiff,reduceIte,reduceCtorEq,Nat.reduceEqDiff,implies_true,forall_const,lawV,lawA,beq_self_eq_true,bne_self_eq_false,Int.reduceBEq,Int.reduceBNe,Int.reduceLT,Int.reduceLE,h2,h3,h58,h59,hlt2]
        exact hk' _ _ ((Kp.refl bs).app _)
    rintro m ⟨t,b⟩ hkp
    simp only [lawG,↓Xn,↓Xo,↓Xg,↓Xd,↓Xe,↓Xf,Tryz.VΓ,Tryz.Γs,Xp,Xi,Nat.reduceAdd,Nat.reduceSub,Nat.reduceLT,Nat.reduceLeDiff,reduceIte,reduceCtorEq,Nat.reduceEqDiff,implies_true,forall_const,lawV,lawA,beq_self_eq_true,bne_self_eq_false,Int.reduceBEq,Int.reduceBNe,Int.reduceLT,Int.reduceLE]
    exact hkp
theorem sc_r14_Same {bs : List Res} {j : Jv} {v v' : Tv} (h : TJ bs j v) (h' : TJ bs j v') : SC Tryz.V 15 [.agg (tv v),.agg (tv v')] bs (fun r b => r = .bool true ∧ b = bs) :=
  sc_r14_SameN _ (Nat.lt_succ_self _) h h'
end Go.Proofs.YtejfjmcjicpodaaGreatDoor
/- diddoc.copied: a tree in memory of its own. -/
set_option linter.all false
set_option maxRecDepth 20000
namespace Go.Proofs.YtejfjmcjicpodaaGreatDoor
open Go Vc Go.RowKit Wf
set_option linter.unusedSimpArgs false
section
variable {bs : List Res} {q3 : Nat} {j : Jv} {v : Tv} {k : Nat} {yk y : SV} {Ls : List Tv} {t t' : List (Nat × SV)} {b : List Res}
end
theorem kp_set1 {bs b : List Res} (h : Kp bs b) {i : Nat} (hi : bs.length ≤ i) (X : Res) : Kp bs (b.set i X) := ⟨by simpa using h.1,fun k hk => by rw [List.getElem?_set_ne (by omega)]; exact h.2 k hk⟩
theorem JB.items {B : Nat} {j : Jv} (h : JB B j) : JBs B j.L := by
  cases j; rw [JB] at h; exact h.2.2.2.2
theorem JBs.get {B : Nat} : ∀ {L : List Jv} {k : Nat} (_ : JBs B L) (h : k < L.length),JB B L[k]
  | [],_,_,h => by simp at h
  | _ :: _,0,h,_ => by rw [JBs] at h; exact h.1
  | _ :: L,k + 1,h,hk => by rw [JBs] at h; exact JBs.get h.2 (by simpa using hk)
end Go.Proofs.YtejfjmcjicpodaaGreatDoor
/- The walks of reference 06: Split,Join. -/
set_option linter.all false
set_option maxRecDepth 20000
namespace Go.Proofs.YtejfjmcjicpodaaGreatDoor
open Go Vc Go.RowKit Wf
set_option linter.unusedSimpArgs false
end Go.Proofs.YtejfjmcjicpodaaGreatDoor
/- The walks of mail.Parse and Format,and of the reference's. -/
set_option linter.all false
set_option maxRecDepth 20000
namespace Go.Proofs.YtejfjmcjicpodaaGreatDoor
open Go Vc Go.RowKit Wf
end Go.Proofs.YtejfjmcjicpodaaGreatDoor
/- The walk of the reference's Parse of mail addresses. -/
set_option linter.all false
set_option maxRecDepth 20000
namespace Go.Proofs.YtejfjmcjicpodaaGreatDoor
open Go Vc Go.RowKit Wf
end Go.Proofs.YtejfjmcjicpodaaGreatDoor
/- The walks of the reference for package did. -/
set_option linter.all false
set_option maxRecDepth 20000
namespace Go.Proofs.YtejfjmcjicpodaaGreatDoor
open Go Vc Go.RowKit Wf
set_option linter.unusedSimpArgs false
end Go.Proofs.YtejfjmcjicpodaaGreatDoor
/- The walks of ref17's reader: stop,text,strings,objects,id. -/
set_option linter.all false
set_option maxRecDepth 20000
namespace Go.Proofs.YtejfjmcjicpodaaGreatDoor
open Go Vc Go.RowKit Wf
set_option linter.unusedSimpArgs false
end Go.Proofs.YtejfjmcjicpodaaGreatDoor
/- The walks of ref17's reader: objects,strings,method,service. -/
set_option linter.all false
set_option maxRecDepth 20000
namespace Go.Proofs.YtejfjmcjicpodaaGreatDoor
open Go Vc Go.RowKit Wf
set_option linter.unusedSimpArgs false
end Go.Proofs.YtejfjmcjicpodaaGreatDoor
/- The walks of ref17's reader: method,service. -/
set_option linter.all false
set_option maxRecDepth 20000
namespace Go.Proofs.YtejfjmcjicpodaaGreatDoor
open Go Vc Go.RowKit Wf
set_option linter.unusedSimpArgs false
end Go.Proofs.YtejfjmcjicpodaaGreatDoor
/- The walk of ref17.Decode. -/
set_option linter.all false
set_option maxRecDepth 20000
namespace Go.Proofs.YtejfjmcjicpodaaGreatDoor
open Go Vc Go.RowKit Wf
set_option linter.unusedSimpArgs false
end Go.Proofs.YtejfjmcjicpodaaGreatDoor
/- diddoc.Select: its plain law,and the walk of its closure. -/
set_option linter.all false
set_option maxRecDepth 20000
namespace Go.Proofs.YtejfjmcjicpodaaGreatDoor
open Go Vc Go.RowKit Wf
set_option linter.unusedSimpArgs false
end Go.Proofs.YtejfjmcjicpodaaGreatDoor
/- diddoc: text,object. -/
set_option linter.all false
set_option maxRecDepth 20000
namespace Go.Proofs.YtejfjmcjicpodaaGreatDoor
open Go Vc Go.RowKit Wf
set_option linter.unusedSimpArgs false
theorem p_dd_text (s : Bytes) : PC Tryz.V 47 [.str s] (.agg [.int .i64 5,.str s,.nils,.nils]) := by
  refine pc_of 3000 Tryz.func47 rfl Tryz.ntmps47 Tryz.results47 Tryz.call47 (by simp) (by simp [flat,flat.flatL]) (by simp [flat,flat.flatL]) ?_
  simp only [lawG,↓Xn,↓Xo,↓Xg,↓Xd,↓Xe,↓Xf,Tryz.VΓ,Tryz.Γs,Xp,Xi,Nat.reduceAdd,Nat.reduceSub,Nat.reduceLT,Nat.reduceLeDiff,reduceIte,reduceCtorEq,Nat.reduceEqDiff,implies_true,forall_const,lawV,lawA,beq_self_eq_true,bne_self_eq_false,Int.reduceBEq,Int.reduceBNe,Int.reduceLT,Int.reduceLE]
theorem one_cell {x : SV} (h : one x = true) : Vc.cells x = [x] ∧ isV x = false := by
  cases x <;> simp_all [one,Vc.cells,isV]
theorem sc_dd_object {bs : List Res} {x y : SV} (hx : within bs.length x = true) (hy : within bs.length y = true) (ox : one x = true) (oy : one y = true) :
    SC Tryz.V 46 [x,y] bs (fun r b => r = .agg [.int .i64 7,.str [],x,y] ∧ Kp bs b) := by
  refine sc_of 3000 Tryz.func46 rfl Tryz.ntmps46 Tryz.results46 Tryz.call46 (by simp) (fun β β' hb => concL_within bs.length _ (by simp [within,within.withinL,hx,hy]) β β' hb) ?_
  obtain ⟨x1,x2⟩ := one_cell ox
  obtain ⟨y1,y2⟩ := one_cell oy
  simp only [lawG,↓Xn,↓Xo,↓Xg,↓Xd,↓Xe,↓Xf,Tryz.VΓ,Tryz.Γs,Xp,Xi,Nat.reduceAdd,Nat.reduceSub,Nat.reduceLT,Nat.reduceLeDiff,reduceIte,reduceCtorEq,Nat.reduceEqDiff,implies_true,forall_const,lawV,lawA,beq_self_eq_true,bne_self_eq_false,Int.reduceBEq,Int.reduceBNe,Int.reduceLT,Int.reduceLE,ox,oy,Bool.and_self,x1,x2,y1,y2]
  exact (Kp.refl bs).app _
theorem keepW {f : FuncId} {args : List SV} {bs : List Res} {x : SV} (hw : within bs.length x = true) (h : SC Tryz.V f args bs (fun r b => r = x ∧ Kp bs b)) : SC Tryz.V f args bs (fun r b => r = x ∧ b = bs) := by
  refine SC.pick (h.mono ?_)
  rintro r b ⟨rfl,hk⟩
  exact ⟨id,[],_,hk,fun _ _ => rfl,fun q X h => by simp at h,(ren_within (fun _ _ => rfl) _ hw).symm,by simpa using hw,rfl,by simp⟩
theorem dim_set {b : List Res} {q : Nat} {c : List SV} {e z n : Nat} {m : Bool} (h : b[q]? = some (.own c e z n m)) : Dim b (b.set q (.own c e z n false)) := by
  refine ⟨by simp,fun i r hi => ?_⟩
  by_cases e : i = q
  · subst e
    rw [List.getElem?_set_self (List.getElem?_eq_some_iff.1 h).1] at hi
    exact .inr ⟨c,_,z,n,m,h,by simpa using hi.symm⟩
  · rw [List.getElem?_set_ne (fun k => e k.symm)] at hi
    exact .inl hi
theorem sc_dd_objectX {bs : List Res} {qx qy : Nat} {cx cy : List SV} {ex ey zx zy nx ny : Nat} {mx my : Bool} (hq : qx ≠ qy) (hx : bs[qx]? = some (.own cx ex zx nx mx)) (hy : bs[qy]? = some (.own cy ey zy ny my)) :
    SC Tryz.V 46 [.o qx nx,.o qy ny] bs (fun r b => r = .agg [.int .i64 7,.str [],.o qx nx,.o qy ny] ∧ b = (bs.set qx (.own cx ex zx nx false)).set qy (.own cy ey zy ny false)) := by
  have hxl := (List.getElem?_eq_some_iff.1 hx).1
  have hyl := (List.getElem?_eq_some_iff.1 hy).1
  refine SC.dim (SC.dim ((keepW (x := .agg [.int .i64 7,.str [],.o qx nx,.o qy ny]) (by simp [within,within.withinL,hxl,hyl]) (sc_dd_object (by simp [within,hxl]) (by simp [within,hyl]) rfl rfl)).mono ?_))
  rintro r b ⟨rfl,rfl⟩
  exact ⟨_,dim_set hx,_,dim_set (get_setN hy hq _),rfl,rfl⟩
end Go.Proofs.YtejfjmcjicpodaaGreatDoor
/- diddoc.texts. -/
set_option linter.all false
set_option maxRecDepth 20000
namespace Go.Proofs.YtejfjmcjicpodaaGreatDoor
open Go Vc Go.RowKit Wf
set_option linter.unusedSimpArgs false
def txd (s : Bytes) : Tv := ⟨5,s,.nils,.nils⟩
def TxsR (bs : List Res) (L : List Bytes) (r : SV) (b : List Res) : Prop := ∃ y,Kp bs b ∧ r = .agg (tv ⟨6,[],.nils,y⟩) ∧ ((y = .nils ∧ L = []) ∨ ∃ q m,0 < L.length ∧ y = .o q L.length ∧ bs.length ≤ q ∧ b[q]? = some (.own ((L.map txd).flatMap tv) 25 4 L.length m))
theorem txd_snoc {L : List Bytes} {k : Nat} (h : k < L.length) : ((L.take (k + 1)).map txd).flatMap tv = ((L.take k).map txd).flatMap tv ++ [.int .i64 5,.str L[k],.nils,.nils] := by
  rw [List.take_succ_eq_append_getElem h,List.map_append,List.flatMap_append]
  rfl
set_option maxHeartbeats 4000000 in
theorem sc_dd_textsR {bs : List Res} {x : SV} {L : List Bytes} (hx : Rs bs x L) (hL : L.length ≤ 1100000) : SC Tryz.V 49 [x] bs (TxsR bs L) := by
  have hxw := hx.within
  have p1 := p_dd_text
  refine sc_of 3000 Tryz.func49 rfl Tryz.ntmps49 Tryz.results49 Tryz.call49 (by simp) (fun β β' hb => concL_within bs.length _ (by simp [within,within.withinL,hxw]) β β' hb) ?_
  unfold tv at p1
  rcases hx with ⟨rfl,rfl⟩ | ⟨j,rfl,hj⟩
  · simp only [lawG,↓Xn,↓Xo,↓Xg,↓Xd,↓Xe,↓Xf,Tryz.VΓ,Tryz.Γs,Xp,Xi,Nat.reduceAdd,Nat.reduceSub,Nat.reduceLT,Nat.reduceLeDiff,reduceIte,reduceCtorEq,Nat.reduceEqDiff,implies_true,forall_const,lawV,lawA,beq_self_eq_true,bne_self_eq_false,Int.reduceBEq,Int.reduceBNe,Int.reduceLT,Int.reduceLE]
    refine loopV_mk (fun σ => lk 8 σ.t = some (.int .i64 0) ∧ lk 9 σ.t = some (.int .i64 0) ∧ lk 2 σ.t = some (.p bs.length 0) ∧ lk 3 σ.t = some (.p (bs.length + 1) 0) ∧ σ.b = bs ++ [.cells [.int .i64 0,.str [],.nils,.nils] 25 true,.cells [.int .i64 6,.str [],.nils,.nils] 25 true]) (fun _ => 1) ⟨rfl,rfl,rfl,rfl,rfl⟩ ?_
    rintro ⟨t,b⟩ ⟨h8,h9,h2,h3,hb⟩
    simp only at h8 h9 h2 h3 hb
    subst hb
    simp only [lawG,↓Xn,↓Xo,↓Xg,↓Xd,↓Xe,↓Xf,Tryz.VΓ,Tryz.Γs,Xp,Xi,Nat.reduceAdd,Nat.reduceSub,Nat.reduceLT,Nat.reduceLeDiff,reduceIte,reduceCtorEq,Nat.reduceEqDiff,implies_true,forall_const,lawV,lawA,beq_self_eq_true,bne_self_eq_false,Int.reduceBEq,Int.reduceBNe,Int.reduceLT,Int.reduceLE,h8,h9,h2,h3]
    exact ⟨.nils,(Kp.refl bs).app _,rfl,.inl ⟨rfl,rfl⟩⟩
  · have hjl := (List.getElem?_eq_some_iff.1 hj).1
    simp only [lawG,↓Xn,↓Xo,↓Xg,↓Xd,↓Xe,↓Xf,Tryz.VΓ,Tryz.Γs,Xp,Xi,Nat.reduceAdd,Nat.reduceSub,Nat.reduceLT,Nat.reduceLeDiff,reduceIte,reduceCtorEq,Nat.reduceEqDiff,implies_true,forall_const,lawV,lawA,beq_self_eq_true,bne_self_eq_false,Int.reduceBEq,Int.reduceBNe,Int.reduceLT,Int.reduceLE]
    refine loopV_mk (fun σ => ∃ (k : Nat) (y : SV),k ≤ L.length ∧ lk 7 σ.t = some (.o j L.length) ∧ lk 8 σ.t = some (.int .i64 L.length) ∧ lk 9 σ.t = some (.int .i64 k) ∧ lk 2 σ.t = some (.p bs.length 0) ∧ lk 3 σ.t = some (.p (bs.length + 1) 0) ∧ Kp bs σ.b ∧ σ.b[bs.length]? = some (.cells [.int .i64 0,.str [],.nils,.nils] 25 true) ∧ σ.b[bs.length + 1]? = some (.cells [.int .i64 6,.str [],.nils,y] 25 true) ∧
      ((y = .nils ∧ k = 0) ∨ ∃ q,0 < k ∧ y = .o q k ∧ bs.length + 1 < q ∧ σ.b[q]? = some (.own (((L.take k).map txd).flatMap tv) 25 4 k true))) (fun σ => L.length - lkI 9 σ) ⟨0,.nils,by omega,rfl,rfl,rfl,rfl,rfl,(Kp.refl bs).app _,app_at0 _ _,app_at _ _ 1,.inl ⟨rfl,rfl⟩⟩ ?_
    rintro ⟨t,b⟩ ⟨k,y,hk,h7,h8,h9,h2,h3,hkp,hb0,hb1,hy⟩
    simp only at h7 h8 h9 h2 h3 hkp hb0 hb1 hy
    rw [lkI_eq h9]
    have hb1l := (List.getElem?_eq_some_iff.1 hb1).1
    have hbj := hkp.at hj
    by_cases hlt : k < L.length
    · have hlt2 : decide ((k : Int) < L.length) = true := decide_eq_true (by omega)
      have hkt : (L.map SV.str)[k * 1]? = some (.str L[k]) := by simp [hlt]
      have hset : ∀ (l : List Res) X,(b ++ l).set (bs.length + 1) X = b.set (bs.length + 1) X ++ l := fun l X => app_setL hb1l l X
      have hsn := txd_snoc hlt
      rcases hy with ⟨rfl,rfl⟩ | ⟨q,hk0,rfl,hq,hbq⟩
      · simp only [lawG,↓Xn,↓Xo,↓Xg,↓Xd,↓Xe,↓Xf,Tryz.VΓ,Tryz.Γs,Xp,Xi,Nat.reduceAdd,Nat.reduceSub,Nat.reduceLT,Nat.reduceLeDiff,reduceIte,reduceCtorEq,Nat.reduceEqDiff,implies_true,forall_const,lawV,lawA,beq_self_eq_true,bne_self_eq_false,Int.reduceBEq,Int.reduceBNe,Int.reduceLT,Int.reduceLE,h7,h8,h9,h2,h3,hbj,hb1,at_old hb1,hkt,hlt2,hset]
        refine ⟨by omega,by simp; omega,?_⟩
        (refine callD_pc (p1 _) ?_; simp only [lawG,↓Xn,↓Xo,↓Xg,↓Xd,↓Xe,↓Xf,Tryz.VΓ,Tryz.Γs,Xp,Xi,Nat.reduceAdd,Nat.reduceSub,Nat.reduceLT,Nat.reduceLeDiff,reduceIte,reduceCtorEq,Nat.reduceEqDiff,implies_true,forall_const,lawV,lawA,beq_self_eq_true,bne_self_eq_false,Int.reduceBEq,Int.reduceBNe,Int.reduceLT,Int.reduceLE,h7,h8,h9,h2,h3,at_old hb1,hset])
        have z1 : (b.length = bs.length + 1) = False := eq_false (by omega)
        have z2 : (b.length + 1 = bs.length + 1) = False := eq_false (by omega)
        refine ⟨by omega,⟨by unfold maxLen; omega,by omega⟩,?_,by omega,⟨1,.o (b.length + 1) 1,by omega,rfl,(hkp.set (by omega) _).app _,at_old (get_setN hb0 (by omega) _) _,get_setS hb1l _ _,.inr ⟨b.length + 1,by omega,rfl,by omega,?_⟩⟩,?_⟩
        · refine OkD_ren (fun n => if n = bs.length + 1 then 0 else n - b.length + 2) ?_
          simp only [List.map_cons,List.map_nil,renRk,renT,Nat.add_sub_cancel_left,Nat.sub_self,z1,z2,eq_self,if_true,if_false]
          exact OkD_fast (by kernel_rfl)
        · rw [app_atL (by simp),hsn]; rfl
        · rw [lkI_eq (show lk 9 _ = some (.int .i64 ((1 : Nat) : Int)) from rfl)]; omega
      · have hql := (List.getElem?_eq_some_iff.1 hbq).1
        have hsq : ∀ (l : List Res) X,(b ++ l).set q X = b.set q X ++ l := fun l X => app_setL hql l X
        simp only [lawG,↓Xn,↓Xo,↓Xg,↓Xd,↓Xe,↓Xf,Tryz.VΓ,Tryz.Γs,Xp,Xi,Nat.reduceAdd,Nat.reduceSub,Nat.reduceLT,Nat.reduceLeDiff,reduceIte,reduceCtorEq,Nat.reduceEqDiff,implies_true,forall_const,lawV,lawA,beq_self_eq_true,bne_self_eq_false,Int.reduceBEq,Int.reduceBNe,Int.reduceLT,Int.reduceLE,h7,h8,h9,h2,h3,hbj,hb1,at_old hb1,at_old hbq,hkt,hlt2,hset,hsq]
        refine ⟨by omega,by simp; omega,?_⟩
        have hq1 : q ≠ bs.length + 1 := by omega
        have hset2 : ∀ (l : List Res) Y X,(b.set q Y ++ l).set (bs.length + 1) X = (b.set q Y).set (bs.length + 1) X ++ l := fun l Y X => app_setL (by simpa using hb1l) l X
        have hbq1 := fun Y => at_old (get_setN hb1 hq1 Y)
        (refine callD_pc (p1 _) ?_; simp only [lawG,↓Xn,↓Xo,↓Xg,↓Xd,↓Xe,↓Xf,Tryz.VΓ,Tryz.Γs,Xp,Xi,Nat.reduceAdd,Nat.reduceSub,Nat.reduceLT,Nat.reduceLeDiff,reduceIte,reduceCtorEq,Nat.reduceEqDiff,implies_true,forall_const,lawV,lawA,beq_self_eq_true,bne_self_eq_false,Int.reduceBEq,Int.reduceBNe,Int.reduceLT,Int.reduceLE,h7,h8,h9,h2,h3,at_old hb1,at_old hbq,hset,hsq,hset2,hbq1])
        have z1 : (b.length = bs.length + 1) = False := eq_false (by omega)
        have z2 : (b.length + 1 = bs.length + 1) = False := eq_false (by omega)
        have z3 : (q = bs.length + 1) = False := eq_false (by omega)
        have z4 : (b.length = q) = False := eq_false (by omega)
        have z5 : (b.length + 1 = q) = False := eq_false (by omega)
        refine ⟨by omega,⟨by unfold maxLen; omega,by omega⟩,?_,by omega,⟨k + 1,.o (b.length + 1) (k + 1),by omega,rfl,((hkp.set (by omega) _).set (by omega) _).app _,at_old (get_setN (get_setN hb0 (by omega) _) (by omega) _) _,get_setS (by simpa using hb1l) _ _,.inr ⟨b.length + 1,by omega,rfl,by omega,?_⟩⟩,?_⟩
        · refine OkD_ren (fun n => if n = bs.length + 1 then 0 else if n = q then 1 else n - b.length + 2) ?_
          simp only [List.map_cons,List.map_nil,renRk,renT,Nat.add_sub_cancel_left,Nat.sub_self,z1,z2,z3,z4,z5,eq_self,if_true,if_false]
          exact OkD_fast (by kernel_rfl)
        · rw [app_atL (by simp),hsn]; rfl
        · rw [lkI_eq (show lk 9 _ = some (.int .i64 ((k + 1 : Nat) : Int)) from rfl)]; omega
    · have hlt2 : decide ((k : Int) < L.length) = false := decide_eq_false (by omega)
      have hb0l := (List.getElem?_eq_some_iff.1 hb0).1
      have hs0 : ∀ X,(b.set bs.length X)[bs.length]? = some X := fun X => List.getElem?_set_self hb0l
      have hyo : one y = true := by rcases hy with ⟨rfl,-⟩ | ⟨q,-,rfl,-⟩ <;> rfl
      obtain rfl : k = L.length := by omega
      simp only [lawG,↓Xn,↓Xo,↓Xg,↓Xd,↓Xe,↓Xf,Tryz.VΓ,Tryz.Γs,Xp,Xi,Nat.reduceAdd,Nat.reduceSub,Nat.reduceLT,Nat.reduceLeDiff,reduceIte,reduceCtorEq,Nat.reduceEqDiff,implies_true,forall_const,lawV,lawA,beq_self_eq_true,bne_self_eq_false,Int.reduceBEq,Int.reduceBNe,Int.reduceLT,Int.reduceLE,h8,h9,h2,h3,hlt2,hb0,hb1,hs0,hyo]
      refine ⟨y,hkp.set (Nat.le_refl _) _,rfl,?_⟩
      rcases hy with ⟨rfl,h0⟩ | ⟨q,hk0,rfl,hq,hbq⟩
      · exact .inl ⟨rfl,List.length_eq_zero_iff.1 h0⟩
      · rw [List.take_length] at hbq
        exact .inr ⟨q,true,hk0,rfl,by omega,get_setN hbq (by omega) _⟩
theorem gone_pick' {bs b : List Res} {r : SV} (hk : Kp bs b) (hr : within bs.length r = true) (n : Nat) {P : SV → List Res → Prop} (hP : P r (bs ++ List.replicate n .gone)) :
    ∃ (ρ : Nat → Nat) (Xs : List Res) (r2 : SV),Kp bs b ∧ (∀ k,k < bs.length → ρ k = k) ∧ (∀ q X,Xs[q]? = some X → Kept bs b ρ (bs.length + Xs.length) (bs.length + q) X) ∧ r = ren ρ r2 ∧ within (bs.length + Xs.length) r2 = true ∧ P r2 (bs ++ Xs) :=
  ⟨id,List.replicate n .gone,r,hk,fun _ _ => rfl,fun q X h => .inl (by
    have := (List.getElem?_eq_some_iff.1 h)
    obtain ⟨h1,h2⟩ := this
    rw [List.getElem_replicate] at h2
    exact h2.symm),(ren_within (fun _ _ => rfl) _ hr).symm,within_up (by omega) hr,hP⟩
theorem txds (b : List Res) : ∀ {L : List Bytes},(∀ s ∈ L,s.length ≤ 140737488355328) → TJs b (L.map Jv.str) (L.map txd)
  | [],_ => by simp [TJs]
  | s :: L,h => by
    rw [List.map_cons,List.map_cons,TJs]
    exact ⟨txd s,L.map txd,rfl,TJ.text b s (h s (by simp)),txds b fun x hx => h x (by simp [hx])⟩
theorem ar_dd_texts {bs : List Res} {x : SV} {L : List Bytes} (hx : Rs bs x L) (hL : L.length ≤ 1100000) (hs : ∀ s ∈ L,s.length ≤ 140737488355328) : ∃ v' A,TJ (bs ++ [A]) (.mk 6 [] [] (L.map Jv.str)) v' ∧ SC Tryz.V 49 [x] bs (fun r b => r = .agg (tv v') ∧ b = bs ++ [A]) := by
  by_cases h0 : L = []
  · subst h0
    refine ⟨⟨6,[],.nils,.nils⟩,.gone,TJ.mk' rfl rfl (by simp [Jv.t]) (.inl ⟨rfl,rfl⟩) (by simp [Jv.K]) (by simp [Jv.K]) (by simp [Jv.L]) ⟨[],.inl ⟨rfl,rfl⟩,by simp [Jv.L,TJs]⟩,SC.pick ((sc_dd_textsR hx (by omega)).mono ?_)⟩
    rintro r b ⟨y,hk,rfl,⟨rfl,-⟩ | ⟨q,m,h0,-⟩⟩
    · exact gone_pick' (P := fun r b => r = .agg (tv ⟨6,[],.nils,.nils⟩) ∧ b = bs ++ [.gone]) hk (by simp [within,within.withinL,tv]) 1 ⟨rfl,rfl⟩
    · exact absurd h0 (by simp)
  · refine ⟨⟨6,[],.nils,.o bs.length L.length⟩,.own ((L.map txd).flatMap tv) 25 4 L.length false,TJ.mk' rfl rfl (by simp [Jv.t]) (.inl ⟨rfl,rfl⟩) (by simp [Jv.K]) (by simp [Jv.K]) (by simp only [Jv.L,List.length_map]; omega) ⟨L.map txd,.inr ⟨bs.length,by simp,by rw [app_at0]; simp⟩,txds _ hs⟩,SC.pick ((sc_dd_textsR hx (by omega)).mono ?_)⟩
    · rintro r b ⟨y,hk,rfl,⟨-,hn⟩ | ⟨q,m,h0,rfl,hq,hbq⟩⟩
      · exact absurd hn h0
      · have hρ : ∀ k,k < bs.length → (fun i => if i = bs.length then q else i) k = k := fun k hk => by
          show (if k = bs.length then q else k) = k
          rw [if_neg (by omega)]
        have w2 : ∀ m,within.withinL m ((L.map txd).flatMap tv) = true := fun m => TvIn.all (fun y hy => by
          obtain ⟨s,h1,rfl⟩ := List.mem_map.1 hy
          exact ⟨rfl,rfl,rfl,rfl⟩)
        refine ⟨fun i => if i = bs.length then q else i,[.own ((L.map txd).flatMap tv) 25 4 L.length false],_,hk,hρ,?_,?_,?_,rfl,rfl⟩
        · rintro p X hp
          match p,hp with
          | 0,hp =>
            cases hp
            refine .inr ⟨_,_,_,_,m,rfl,?_,?_,w2 _⟩
            · simpa using hq
            · rw [renL_within hρ _ (w2 _)]; simpa using hbq
        · simp [ren,renL,tv]
        · simp [within,within.withinL,tv]
end Go.Proofs.YtejfjmcjicpodaaGreatDoor
/- diddoc.Encode's closure: one member more. -/
set_option linter.all false
set_option maxRecDepth 20000
namespace Go.Proofs.YtejfjmcjicpodaaGreatDoor
open Go Vc Go.RowKit Wf
set_option linter.unusedSimpArgs false
def KpQ (q qk qi : Nat) (bs b : List Res) : Prop := bs.length ≤ b.length ∧ ∀ i r,bs[i]? = some r → i ≠ q → i ≠ qk → i ≠ qi → b[i]? = some r
structure OB (b : List Res) (q qk qi : Nat) (Ks : List Bytes) (Ls : List Tv) : Prop where
  bq : b[q]? = some (.cells [.int .i64 7,.str [],.o qk Ks.length,.o qi Ls.length] 25 true)
  bk : b[qk]? = some (.own (Ks.map SV.str) 9 1 Ks.length true)
  bi : b[qi]? = some (.own (Ls.flatMap tv) 25 4 Ls.length true)
set_option maxHeartbeats 8000000 in
theorem sc_dd_put {bs : List Res} {q qk qi : Nat} {Ks : List Bytes} {Ls : List Tv} (h : OB bs q qk qi Ks Ls) (hKl : Ks.length ≤ 1000) (hLl : Ls.length ≤ 1000) (key : Bytes) {v : Tv} (hv : TvIn bs.length v) {n : Nat} (hn : ∀ e,lenS (.slice e) v.xi = some (.int .i64 n)) (hn0 : 0 < n) :
    SC Tryz.V 48 [.str key,.agg (tv v),.p q 0] bs (fun r b => r = .tup [] ∧ ∃ qk' qi',bs.length ≤ qk' ∧ bs.length ≤ qi' ∧ OB b q qk' qi' (Ks ++ [key]) (Ls ++ [v]) ∧ KpQ q qk qi bs b) := by
  obtain ⟨bq,bk,bi⟩ := h
  obtain ⟨v1,v2,v3,v4⟩ := hv
  have ho : (one v.xk && one v.xi) = true := by rw [v3,v4]; rfl
  have hql := (List.getElem?_eq_some_iff.1 bq).1
  have hkl := (List.getElem?_eq_some_iff.1 bk).1
  have hil := (List.getElem?_eq_some_iff.1 bi).1
  have hki : qk ≠ qi := by rintro rfl; rw [bk] at bi; simp at bi
  have hkq : qk ≠ q := by rintro rfl; rw [bk] at bq; cases bq
  have hiq : qi ≠ q := by rintro rfl; rw [bi] at bq; cases bq
  have hc : decide ((0 : Int) < n) = true := decide_eq_true (by omega)
  refine sc_of 3000 Tryz.func48 rfl Tryz.ntmps48 Tryz.results48 Tryz.call48 (by simp) (fun β β' hb => concL_within bs.length _ (by simp [within,within.withinL,tv,v1,v2,hql]) β β' hb) ?_
  have c0 := at_old bq
  have c1 : ∀ (l : List Res) X,(bs ++ l).set qk X = bs.set qk X ++ l := fun l X => app_setL hkl l X
  have c2 := fun Y => at_old (get_setN bi hki Y)
  have c3 : ∀ (l : List Res) Y X,(bs.set qk Y ++ l).set qi X = (bs.set qk Y).set qi X ++ l := fun l Y X => app_setL (by simpa using hil) l X
  have c4 := fun Y => at_old (get_setN bq hkq Y)
  have c6 := fun Y Z => at_old (get_setN (get_setN bq hkq Y) hiq Z)
  have c7 : ∀ (l : List Res) Y Z X,((bs.set qk Y).set qi Z ++ l).set q X = ((bs.set qk Y).set qi Z).set q X ++ l := fun l Y Z X => app_setL (by simpa using hql) l X
  have c8 : ∀ (Y : Res) (l : List Res),(bs.set qk Y ++ l)[bs.length]? = l[0]? := fun Y l => by rw [show bs.length = (bs.set qk Y).length by simp,app_at0]
  have hgs : ∀ Y Z X (l : List Res),(((bs.set qk Y).set qi Z).set q X ++ l)[q]? = some X := fun Y Z X l => get_setS (by simpa using hql) X l
  have hss : ∀ Y Z X X' (l : List Res),(((bs.set qk Y).set qi Z).set q X ++ l).set q X' = ((bs.set qk Y).set qi Z).set q X' ++ l := fun Y Z X X' l => by rw [app_setL (by simpa using hql),List.set_set]
  unfold tv
  simp only [lawG,↓Xn,↓Xo,↓Xg,↓Xd,↓Xe,↓Xf,Tryz.VΓ,Tryz.Γs,Xp,Xi,Nat.reduceAdd,Nat.reduceSub,Nat.reduceLT,Nat.reduceLeDiff,reduceIte,reduceCtorEq,Nat.reduceEqDiff,implies_true,forall_const,lawV,lawA,beq_self_eq_true,bne_self_eq_false,Int.reduceBEq,Int.reduceBNe,Int.reduceLT,Int.reduceLE,ho,hn,hc,v4,bq,c0,at_old bk,c1,c2,c3,c4,c6,c7,c8,hgs,hss]
  simp only [List.length_set]
  have hKK : (Ks ++ [key]).length = Ks.length + 1 := by simp
  have hLL : (Ls ++ [v]).length = Ls.length + 1 := by simp
  refine ⟨by omega,⟨by unfold maxLen; omega,by omega⟩,by omega,⟨v3,by unfold maxLen; omega,by omega⟩,?_,bs.length + 2,bs.length + 4,by omega,by omega,⟨?_,?_,?_⟩,by simp,fun i r hi h1 h2 h3 => at_old (get_setN (get_setN (get_setN hi (Ne.symm h2) _) (Ne.symm h3) _) (Ne.symm h1) _) _⟩
  · have z1 : (bs.length = q) = False := eq_false (by omega)
    have z2 : (bs.length + 1 = q) = False := eq_false (by omega)
    have z3 : (bs.length + 2 = q) = False := eq_false (by omega)
    have z4 : (bs.length + 3 = q) = False := eq_false (by omega)
    have z5 : (bs.length + 4 = q) = False := eq_false (by omega)
    have y1 : (bs.length = qk) = False := eq_false (by omega)
    have y2 : (bs.length + 1 = qk) = False := eq_false (by omega)
    have y3 : (bs.length + 2 = qk) = False := eq_false (by omega)
    have y4 : (bs.length + 3 = qk) = False := eq_false (by omega)
    have y5 : (bs.length + 4 = qk) = False := eq_false (by omega)
    have x1 : (bs.length = qi) = False := eq_false (by omega)
    have x2 : (bs.length + 1 = qi) = False := eq_false (by omega)
    have x3 : (bs.length + 2 = qi) = False := eq_false (by omega)
    have x4 : (bs.length + 3 = qi) = False := eq_false (by omega)
    have x5 : (bs.length + 4 = qi) = False := eq_false (by omega)
    have w1 : (qk = q) = False := eq_false hkq
    have w2 : (qi = q) = False := eq_false hiq
    have w3 : (qi = qk) = False := eq_false (fun e => hki e.symm)
    refine OkD_ren (fun n => if n = q then 0 else if n = qk then 1 else if n = qi then 2 else n - bs.length + 3) ?_
    have e0 : bs.length + 3 - bs.length = 3 := by omega
    have e1 : bs.length + 4 - bs.length = 4 := by omega
    have e2 : bs.length + 2 - bs.length = 2 := by omega
    have e3 : bs.length + 1 - bs.length = 1 := by omega
    simp only [List.map_cons,List.map_nil,renRk,renT,Nat.sub_self,z1,z2,z3,z4,z5,y1,y2,y3,y4,y5,x1,x2,x3,x4,x5,w1,w2,w3,e0,e1,e2,e3,eq_self,if_true,if_false]
    exact OkD_fast (by kernel_rfl)
  · rw [hKK,hLL]; exact get_setS (by simpa using hql) _ _
  · rw [app_atL (by simp),hKK]; simp
  · rw [app_atL (by simp),hLL]; simp [tv]
end Go.Proofs.YtejfjmcjicpodaaGreatDoor
/- What the encoding of a document is; it comes back. -/
set_option linter.all false
set_option maxRecDepth 20000
namespace Go.Proofs.YtejfjmcjicpodaaGreatDoor
open Go Vc Go.RowKit Wf
set_option linter.unusedSimpArgs false
def arrS (L : List Bytes) : Jv := .mk 6 [] [] (L.map Jv.str)
def methJ (m : Mtm) : Jv := .mk 7 [] [([105,100] : List UInt8),([116,121,112,101] : List UInt8),([99,111,110,116,114,111,108,108,101,114] : List UInt8)] [Jv.str m.id,Jv.str m.type,Jv.str m.ctrl]
def servJ (s : Svm) : Jv := .mk 7 [] [([105,100] : List UInt8),([116,121,112,101] : List UInt8),([115,101,114,118,105,99,101,69,110,100,112,111,105,110,116] : List UInt8)] [Jv.str s.id,arrS s.types,arrS s.ends]
def memK (key : Bytes) (L : List Jv) : List Bytes := if L.length = 0 then [] else [key]
def memI (L : List Jv) : List Jv := if L.length = 0 then [] else [.mk 6 [] [] L]
def encM (D : Docm) : Jv := .mk 7 []
  ([([105,100] : List UInt8)] ++ memK ([97,108,115,111,75,110,111,119,110,65,115] : List UInt8) (D.also.map Jv.str) ++ memK ([99,111,110,116,114,111,108,108,101,114] : List UInt8) (D.ctrl.map Jv.str) ++ memK ([118,101,114,105,102,105,99,97,116,105,111,110,77,101,116,104,111,100] : List UInt8) (D.methods.map methJ) ++ memK ([115,101,114,118,105,99,101] : List UInt8) (D.services.map servJ))
  ([Jv.str D.id] ++ memI (D.also.map Jv.str) ++ memI (D.ctrl.map Jv.str) ++ memI (D.methods.map methJ) ++ memI (D.services.map servJ))
end Go.Proofs.YtejfjmcjicpodaaGreatDoor
/- ref14's parser: value,where array and object keep their word. -/
set_option linter.all false
set_option maxRecDepth 20000
namespace Go.Proofs.YtejfjmcjicpodaaGreatDoor
open Go Vc Go.RowKit Wf
set_option linter.unusedSimpArgs false
def POut (s : Bytes) (p a : Nat) (f : Int) (bs : List Res) (r : SV) (b : List Res) : Prop := ∃ (a' n' : Nat) (f' w' : Int),a ≤ a' ∧ a' ≤ s.length ∧ n' ≤ 20001 ∧ (f' = 0 → n' ≤ 20000 ∧ f = 0) ∧ KpP p (pcl s a' n' f' w') 53 true bs b ∧ ∃ j v,r = .agg (tv v) ∧ TJ b j v ∧ JB (s.length + 410) j
def zv : List SV := [.int .i64 0,.str [],.nils,.nils]
end Go.Proofs.YtejfjmcjicpodaaGreatDoor
/- ref14's parser: the state of array and object. -/
set_option linter.all false
set_option maxRecDepth 20000
namespace Go.Proofs.YtejfjmcjicpodaaGreatDoor
open Go Vc Go.RowKit Wf
set_option linter.unusedSimpArgs false
structure AS (K : Int) (s : Bytes) (bs : List Res) (p d : Nat) (a n : Nat) (f w k : Int) (u : Bytes) (pos : Int) (yk y : SV) (Ks : List Bytes) (Ls : List Tv) (Js : List Jv) (t : List (Nat × SV)) (b : List Res) : Prop where
  l0 : lk 0 t = some (.p p 0)
  l1 : lk 1 t = some (.int .i64 d)
  l4 : lk 4 t = some (.p bs.length 0)
  l5 : lk 5 t = some (.p (bs.length + 1) 0)
  l6 : lk 6 t = some (.p (bs.length + 2) 0)
  pl : p < bs.length
  kp : KpP p (pcl s a n f w) 53 true bs b
  b0 : b[bs.length]? = some (.cells zv 25 true)
  b1 : b[bs.length + 1]? = some (.cells [.int .i64 K,.str [],yk,y] 25 true)
  b2 : b[bs.length + 2]? = some (.cells (tok k u pos) 56 true)
  rk : (yk = .nils ∧ Ks = []) ∨ ∃ q,0 < Ks.length ∧ yk = .o q Ks.length ∧ bs.length + 2 < q ∧ b[q]? = some (.own (Ks.map SV.str) 9 1 Ks.length true)
  ri : (y = .nils ∧ Ls = []) ∨ ∃ q,0 < Ls.length ∧ y = .o q Ls.length ∧ bs.length + 2 < q ∧ b[q]? = some (.own (Ls.flatMap tv) 25 4 Ls.length true)
  js : TJs b Js Ls
  jb : JBs (s.length + 410) Js
  kb : ∀ x ∈ Ks,x.length ≤ s.length + 410
  ul : u.length ≤ s.length
section
variable {K : Int} {s : Bytes} {bs : List Res} {p d : Nat} {a n : Nat} {f w k : Int} {u : Bytes} {pos : Int} {yk y : SV} {Ks : List Bytes} {Ls : List Tv} {Js : List Jv} {t t' : List (Nat × SV)} {b : List Res}
theorem AS.pp (h : AS K s bs p d a n f w k u pos yk y Ks Ls Js t b) : b[p]? = some (pbox s a n f w) := h.kp.2.2
theorem AS.setp (h : AS K s bs p d a n f w k u pos yk y Ks Ls Js t b) (a' n' : Nat) (f' w' : Int) : AS K s bs p d a' n' f' w' k u pos yk y Ks Ls Js t (b.set p (pbox s a' n' f' w')) := by
  have hpl := h.pl
  refine { h with kp := h.kp.set _ _ _,b0 := get_setN h.b0 (by omega) _,b1 := get_setN h.b1 (by omega) _,b2 := get_setN h.b2 (by omega) _,rk := ?_,ri := ?_,js := h.js.ro (ro_p h.pp _) }
  · rcases h.rk with e | ⟨q,h1,h2,h3,h4⟩
    · exact .inl e
    · exact .inr ⟨q,h1,h2,h3,get_setN h4 (by omega) _⟩
  · rcases h.ri with e | ⟨q,h1,h2,h3,h4⟩
    · exact .inl e
    · exact .inr ⟨q,h1,h2,h3,get_setN h4 (by omega) _⟩
where ro_p {b : List Res} {p : Nat} {c : List SV} {T : TypeId} {m : Bool} (hp : b[p]? = some (.cells c T m)) (X : Res) : Ro b (b.set p X) := (Ro.refl b).set (fun c e s n hx => by rw [hp] at hx; cases hx) X
theorem AS.call (h : AS K s bs p d a n f w k u pos yk y Ks Ls Js t b) {a' n' : Nat} {f' w' : Int} {b' : List Res} (g : KpP p (pcl s a' n' f' w') 53 true b b') : AS K s bs p d a' n' f' w' k u pos yk y Ks Ls Js t b' := by
  have hpl := h.pl
  refine { h with kp := h.kp.trans g,b0 := g.at h.b0 (by omega),b1 := g.at h.b1 (by omega),b2 := g.at h.b2 (by omega),rk := ?_,ri := ?_,js := h.js.ro (g.ro h.pp) }
  · rcases h.rk with e | ⟨q,h1,h2,h3,h4⟩
    · exact .inl e
    · exact .inr ⟨q,h1,h2,h3,g.at h4 (by omega)⟩
  · rcases h.ri with e | ⟨q,h1,h2,h3,h4⟩
    · exact .inl e
    · exact .inr ⟨q,h1,h2,h3,g.at h4 (by omega)⟩
theorem AS.out {a0 : Nat} {f0 : Int} (h : AS K s bs p d a n f w k u pos yk y Ks Ls Js t b) (h1 : a0 ≤ a) (h2 : a ≤ s.length) (h3 : n ≤ 20001) (h4 : f = 0 → n ≤ 20000 ∧ f0 = 0) (hs : s.length ≤ 1000000) (hL : Js.length ≤ s.length + 410) (hK : Ks.length ≤ s.length + 410) (X : Res) :
    bs.length ≤ (b.set bs.length X).length ∧ POut s p a0 f0 bs (.agg [.int .i64 K,.str [],yk,y]) (dimB bs.length (b.set bs.length X)) := by
  have hpl := h.pl
  have hkp := h.kp.setN (i := bs.length) (by omega) (by omega) X
  have hro : Ro b (dimB bs.length (b.set bs.length X)) := (AS.setp.ro_p h.b0 X).trans (dimB_dim hkp.1).ro
  have hLL := h.js.len
  refine ⟨hkp.1,a,n,f,w,h1,h2,h3,h4,hkp.dimB hpl,.mk K [] Ks Js,⟨K,[],yk,y⟩,rfl,TJ.mk' rfl rfl (by simp [Jv.t]) ?_ (by simp only [Jv.K]; omega) (fun x hx => by have := h.kb x hx; omega) (by simp only [Jv.L]; omega) ⟨Ls,?_,h.js.ro hro⟩,?_⟩
  · rcases h.rk with ⟨rfl,rfl⟩ | ⟨q,g1,rfl,g3,g4⟩
    · exact .inl ⟨rfl,rfl⟩
    · exact .inr ⟨q,rfl,by rw [dimB_at (by omega) (get_setN g4 (by omega) _)]; rfl⟩
  · rcases h.ri with ⟨rfl,rfl⟩ | ⟨q,g1,rfl,g3,g4⟩
    · exact .inl ⟨rfl,rfl⟩
    · exact .inr ⟨q,rfl,by rw [dimB_at (by omega) (get_setN g4 (by omega) _)]; rfl⟩
  · rw [JB]
    exact ⟨by simp,hK,h.kb,hL,h.jb⟩
end
end Go.Proofs.YtejfjmcjicpodaaGreatDoor
/- diddoc.Encode: the lemmas of its walk. -/
set_option linter.all false
set_option maxRecDepth 20000
namespace Go.Proofs.YtejfjmcjicpodaaGreatDoor
open Go Vc Go.RowKit Wf
set_option linter.unusedSimpArgs false
theorem sc_dd_put0 {bs : List Res} {q : Nat} (key : Bytes) {v : Tv} (hv : TvIn bs.length v) (hq : q < bs.length) (hn : ∀ e,lenS (.slice e) v.xi = some (.int .i64 0)) :
    SC Tryz.V 48 [.str key,.agg (tv v),.p q 0] bs (fun r b => r = .tup [] ∧ Kp bs b) := by
  obtain ⟨v1,v2,v3,v4⟩ := hv
  have ho : (one v.xk && one v.xi) = true := by rw [v3,v4]; rfl
  refine sc_of 3000 Tryz.func48 rfl Tryz.ntmps48 Tryz.results48 Tryz.call48 (by simp) (fun β β' hb => concL_within bs.length _ (by simp [within,within.withinL,tv,v1,v2,hq]) β β' hb) ?_
  unfold tv
  simp only [lawG,↓Xn,↓Xo,↓Xg,↓Xd,↓Xe,↓Xf,Tryz.VΓ,Tryz.Γs,Xp,Xi,Nat.reduceAdd,Nat.reduceSub,Nat.reduceLT,Nat.reduceLeDiff,reduceIte,reduceCtorEq,Nat.reduceEqDiff,implies_true,forall_const,lawV,lawA,beq_self_eq_true,bne_self_eq_false,Int.reduceBEq,Int.reduceBNe,Int.reduceLT,Int.reduceLE,ho,hn,v4]
  exact (Kp.refl bs).app _
theorem OB.ro {b b' : List Res} {q qk qi : Nat} {Ks : List Bytes} {Ls : List Tv} (h : OB b q qk qi Ks Ls) (g : KpQ q qk qi b b') : Ro b b' := fun i c e s n hi => g.2 i _ hi (by rintro rfl; rw [h.bq] at hi; cases hi) (by rintro rfl; rw [h.bk] at hi; cases hi) (by rintro rfl; rw [h.bi] at hi; cases hi)
end Go.Proofs.YtejfjmcjicpodaaGreatDoor
namespace Vc
open Go.Proofs.YtejfjmcjicpodaaGreatDoor
open Go Vc Go.RowKit Wf
theorem Kp.kpQ {bs b : List Res} (h : Kp bs b) (q qk qi : Nat) : KpQ q qk qi bs b := ⟨h.1,fun _ _ hi _ _ _ => h.at hi⟩
end Vc
namespace Go.Proofs.YtejfjmcjicpodaaGreatDoor
open Go Vc Go.RowKit Wf
theorem OB.kp {b b' : List Res} {q qk qi : Nat} {Ks : List Bytes} {Ls : List Tv} (h : OB b q qk qi Ks Ls) (g : Kp b b') : OB b' q qk qi Ks Ls := ⟨g.at h.bq,g.at h.bk,g.at h.bi⟩
theorem sc_dd_putJ {bs : List Res} {q qk qi : Nat} {Ks : List Bytes} {Ls : List Tv} {Js : List Jv} (h : OB bs q qk qi Ks Ls) (hj : TJs bs Js Ls) (hKl : Ks.length ≤ 1000) (hLl : Ls.length ≤ 1000) (key : Bytes) {jl : List Jv} {v : Tv} (hv : TJ bs (.mk 6 [] [] jl) v) :
    SC Tryz.V 48 [.str key,.agg (tv v),.p q 0] bs (fun r b => r = .tup [] ∧ ∃ qk' qi' Ls',(qk' = qk ∨ bs.length ≤ qk') ∧ (qi' = qi ∨ bs.length ≤ qi') ∧ OB b q qk' qi' (Ks ++ memK key jl) Ls' ∧ TJs b (Js ++ memI jl) Ls' ∧ KpQ q qk qi bs b) := by
  obtain ⟨-,-,-,-,-,-,-,Li,hri,hti⟩ := hv.un
  have hLi := hti.len
  simp only [Jv.L] at hLi
  have hn : ∀ e,lenS (.slice e) v.xi = some (.int .i64 jl.length) := fun e => by
    rw [← hLi]
    rcases hri with ⟨h1,rfl⟩ | ⟨_,h1,-⟩ <;> rw [h1] <;> rfl
  have hql := (List.getElem?_eq_some_iff.1 h.bq).1
  by_cases h0 : jl.length = 0
  · rw [h0] at hn
    refine (sc_dd_put0 key hv.tin hql hn).mono ?_
    rintro r b ⟨rfl,hk⟩
    refine ⟨rfl,qk,qi,Ls,.inl rfl,.inl rfl,?_,?_,hk.kpQ _ _ _⟩
    · unfold memK; rw [if_pos h0,List.append_nil]; exact h.kp hk
    · unfold memI; rw [if_pos h0,List.append_nil]; exact hj.ro hk.ro
  · refine (sc_dd_put h hKl hLl key hv.tin hn (by omega)).mono ?_
    rintro r b ⟨rfl,qk',qi',g1,g2,g3,g4⟩
    refine ⟨rfl,qk',qi',Ls ++ [v],.inr g1,.inr g2,?_,?_,g4⟩
    · unfold memK; rw [if_neg h0]; exact g3
    · unfold memI; rw [if_neg h0]
      exact (hj.ro (h.ro g4)).app (by rw [TJs]; exact ⟨v,[],rfl,hv.ro (h.ro g4),by rw [TJs]⟩)
structure ES (bs : List Res) (dc : List SV) (qk qi : Nat) (Ks : List Bytes) (Ls : List Tv) (Js : List Jv) (t : List (Nat × SV)) (b : List Res) : Prop where
  l1 : lk 1 t = some (.p bs.length 0)
  l2 : lk 2 t = some (.p (bs.length + 1) 0)
  l3 : lk 3 t = some (.p (bs.length + 4) 0)
  kp : Kp bs b
  b0 : b[bs.length]? = some (.cells dc 34 true)
  b1 : b[bs.length + 1]? = some (.cells [.int .i64 0,.str [],.nils,.nils] 25 true)
  ob : OB b (bs.length + 4) qk qi Ks Ls
  hk : bs.length + 1 < qk
  hi : bs.length + 1 < qi
  js : TJs b Js Ls
def SE (t t' : List (Nat × SV)) : Prop := lk 1 t' = lk 1 t ∧ lk 2 t' = lk 2 t ∧ lk 3 t' = lk 3 t
section
variable {bs : List Res} {dc : List SV} {qk qi : Nat} {Ks : List Bytes} {Ls : List Tv} {Js : List Jv} {t t' : List (Nat × SV)} {b b' : List Res}
theorem ES.mv (h : ES bs dc qk qi Ks Ls Js t b) (e : SE t t') : ES bs dc qk qi Ks Ls Js t' b := { h with l1 := e.1.trans h.l1,l2 := e.2.1.trans h.l2,l3 := e.2.2.trans h.l3 }
theorem ES.kpp (h : ES bs dc qk qi Ks Ls Js t b) (g : Kp b b') : ES bs dc qk qi Ks Ls Js t b' := { h with kp := h.kp.trans g,b0 := g.at h.b0,b1 := g.at h.b1,ob := h.ob.kp g,js := h.js.ro g.ro }
theorem ES.put (h : ES bs dc qk qi Ks Ls Js t b) {qk' qi' : Nat} {Ks' : List Bytes} {Ls' : List Tv} {Js' : List Jv} (h1 : qk' = qk ∨ b.length ≤ qk') (h2 : qi' = qi ∨ b.length ≤ qi') (h3 : OB b' (bs.length + 4) qk' qi' Ks' Ls') (h4 : TJs b' Js' Ls') (g : KpQ (bs.length + 4) qk qi b b') : ES bs dc qk' qi' Ks' Ls' Js' t b' := by
  have hk := h.hk
  have hi := h.hi
  have hl := (List.getElem?_eq_some_iff.1 h.ob.bq).1
  refine { h with kp := ⟨Nat.le_trans h.kp.1 g.1,fun i hx => ?_⟩,b0 := g.2 _ _ h.b0 (by omega) (by omega) (by omega),b1 := g.2 _ _ h.b1 (by omega) (by omega) (by omega),ob := h3,hk := by omega,hi := by omega,js := h4 }
  have e := h.kp.2 i hx
  rw [List.getElem?_eq_getElem hx] at e ⊢
  exact g.2 i _ e (by omega) (by omega) (by omega)
theorem ES.row (h : ES bs dc qk qi Ks Ls Js t b) {q : Nat} {c : List SV} {e s n : Nat} (hq : b[q]? = some (.own c e s n true)) (hqi : q ≠ qi) (hqk : q ≠ qk) (hb : bs.length ≤ q) (X : Res) : ES bs dc qk qi Ks Ls Js t (b.set q X) := by
  have h0 : q ≠ bs.length := by rintro rfl; rw [h.b0] at hq; cases hq
  have h1 : q ≠ bs.length + 1 := by rintro rfl; rw [h.b1] at hq; cases hq
  have h4 : q ≠ bs.length + 4 := by rintro rfl; rw [h.ob.bq] at hq; cases hq
  exact { h with kp := kp_set1 h.kp hb _,b0 := get_setN h.b0 h0 _,b1 := get_setN h.b1 h1 _,ob := ⟨get_setN h.ob.bq h4 _,get_setN h.ob.bk hqk _,get_setN h.ob.bi hqi _⟩,js := h.js.ro ((Ro.refl b).setT hq X) }
theorem ES.box (h : ES bs dc qk qi Ks Ls Js t b) {q : Nat} {c : List SV} {T : TypeId} {m : Bool} (hq : b[q]? = some (.cells c T m)) (hb : bs.length + 4 < q) (X : Res) : ES bs dc qk qi Ks Ls Js t (b.set q X) := by
  have hqk : q ≠ qk := by rintro rfl; rw [h.ob.bk] at hq; cases hq
  have hqi : q ≠ qi := by rintro rfl; rw [h.ob.bi] at hq; cases hq
  exact { h with kp := kp_set1 h.kp (by omega) _,b0 := get_setN h.b0 (by omega) _,b1 := get_setN h.b1 (by omega) _,ob := ⟨get_setN h.ob.bq (by omega) _,get_setN h.ob.bk hqk _,get_setN h.ob.bi hqi _⟩,js := h.js.ro (AS.setp.ro_p hq X) }
end
def RW (n qk qi : Nat) (b : List Res) (y : SV) (Ms : List Tv) : Prop := (y = .nils ∧ Ms = []) ∨ ∃ q,0 < Ms.length ∧ y = .o q Ms.length ∧ q ≠ qi ∧ q ≠ qk ∧ n < q ∧ b[q]? = some (.own (Ms.flatMap tv) 25 4 Ms.length true)
theorem RW.kp {n qk qi : Nat} {b b' : List Res} {y : SV} {Ms : List Tv} (h : RW n qk qi b y Ms) (g : Kp b b') : RW n qk qi b' y Ms := by
  rcases h with h | ⟨q,h1,h2,h3,h4,h5,h6⟩
  · exact .inl h
  · exact .inr ⟨q,h1,h2,h3,h4,h5,g.at h6⟩
theorem RW.one {n qk qi : Nat} {b : List Res} {y : SV} {Ms : List Tv} (h : RW n qk qi b y Ms) : Vc.one y = true := by
  rcases h with ⟨rfl,-⟩ | ⟨q,-,rfl,-⟩ <;> rfl
theorem outs_sets (i j : Nat) (b : List Res) (X Y : Res) : Outs [(i,0,0),(j,0,0)] ((b.set i X).set j Y) b := outs_of (fun k hk => by
  rw [List.getElem?_set_ne (hk (j,0,0) (by simp)),List.getElem?_set_ne (hk (i,0,0) (by simp))]) (by simp)
structure DocB (D : Docm) : Prop where
  id : D.id.length ≤ 140737488355328
  also : D.also.length ≤ 1100000 ∧ ∀ s ∈ D.also,s.length ≤ 140737488355328
  ctrl : D.ctrl.length ≤ 1100000 ∧ ∀ s ∈ D.ctrl,s.length ≤ 140737488355328
  ml : D.methods.length ≤ 1100000
  sl : D.services.length ≤ 1100000
  m : ∀ x ∈ D.methods,x.id.length ≤ 140737488355328 ∧ x.type.length ≤ 140737488355328 ∧ x.ctrl.length ≤ 140737488355328
  s : ∀ x ∈ D.services,x.id.length ≤ 140737488355328 ∧ (x.types.length ≤ 1100000 ∧ ∀ s ∈ x.types,s.length ≤ 140737488355328) ∧ (x.ends.length ≤ 1100000 ∧ ∀ s ∈ x.ends,s.length ≤ 140737488355328)
theorem DocR.onesB {b : List Res} {xa xc xm xs : SV} {A C : List Bytes} {M : List Mtm} {Q : List Sq} (h1 : Rs b xa A) (h2 : Rs b xc C) (h3 : Rm b xm M) (h4 : Rq b xs Q) : (Vc.one xa && (Vc.one xc && (Vc.one xm && Vc.one xs))) = true := by rw [h1.one,h2.one,h3.one,h4.one]; rfl
end Go.Proofs.YtejfjmcjicpodaaGreatDoor
