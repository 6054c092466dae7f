/- TxBare: a part of its proof; conditions: its statement's. -/
import Derived.Test.YtiojppeahfoiaaaGreatRows
import Derived.Test.YtiojppeahfoiaaaGreatN09
import Derived.WalkKit
import Derived.ProofKit
import Derived.OpenShut
import Derived.JoinedCond
import Derived.ChangeBook
import Derived.ChangeStays
namespace Go.Proofs.YtiojppeahfoiaaaGreat.TxBare
open Go.ChangeShapes Go.WideShapes Go.ChangeAt Go.RowKit
theorem own : ownKnob Tryz.prog.godebug=none:=by kernel_rfl
theorem laid : laidOutB Tryz.prog=true:=by kernel_rfl
theorem OH : Tryz.prog.readableRec 48=true:=by kernel_rfl
theorem row : (48:TypeId)<Tryz.prog.types.size:=of_decide_eq_true (by kernel_rfl)
theorem Wy : Tryz.prog.readableRec 23=true:=by kernel_rfl
theorem adO : (23:TypeId)<Tryz.prog.types.size:=of_decide_eq_true (by kernel_rfl)
set_option maxRecDepth 100000 in
theorem Ve (H:Type)(enc:TypeId×Value→H)(W:World)(base:Nat)(args:Array Value)(ds gs:List (DataW H))(before:List MemPlace)
 (I:∀(j:Nat) t v,Tryz.f7.params[j]?=some t→args[j]?=some v→Value.okWide Tryz.prog W .any base t v)
 (hW:DataW.Whole enc Tryz.prog Tryz.f7.params.toList Rows.txBareSpec.vars false W args.toList ds gs before)(hk:Rows.uptoBulkAll (ds++gs)≤1048576):
  Calls Tryz.prog 7 args W fun e W'=>∃v,e=.returned v∧Rows.txBareSpec.post enc Tryz.prog Tryz.f7 false true false false W args v W':=by
 have hW':=hW
 obtain⟨p,q,hA0,hV,rfl,BY,ju⟩:=hW
 have hA:DataW.TrodAll enc Tryz.prog W 0 (fun _=>true) true Tryz.f7.params.toList args.toList ds p:=hA0
 rw[Tryz.params7] at hA I
 obtain⟨v0,vs0,d0,ds0,p0,q0,Bp,rfl,rfl,h0,r0⟩:=trodAll_cons hA
 obtain⟨v1,vs1,d1,ds1,p1,q1,rfl,rfl,rfl,h1,r1⟩:=trodAll_cons r0
 obtain⟨rfl,rfl,rfl⟩:=trodAll_nil r1
 obtain rfl:args = #[v0,v1]:=by cases args;simp_all
 obtain⟨rfl,rfl⟩:=trodVars_none hV
 obtain⟨J,h0⟩:=h0
 obtain⟨fuel,h1⟩:=h1
 have aaO:v0.cells.toList=[v0]:=by
  have:=I 0 48 v0 rfl rfl
  simp only[Value.okWide,Tryz.underlying48,Cell.okWide,Cell.ok] at this
  split at this<;>first|rfl|exact this.elim
 have xz:v1.cells.toList=[v1]:=by
  have:=I 1 23 v1 rfl rfl
  simp only[Value.okWide,Tryz.underlying23,Cell.okWide,Cell.ok] at this
  split at this<;>first|rfl|exact this.elim
 have h0':=h0
 rw[aaO] at h0
 have Vi:=h1
 rw[xz] at h1
 have wH:Rows.uptoBulk d0≤1048576:=by
  have:=Am.AY (l:=([d0,d1]++([]:List (DataW H)))) (d:=d0) (by simp)
  exact Nat.le_trans this hk
 have hb:Rows.uptoBulk d1≤1048576:=by
  have:=Am.AY (l:=([d0,d1]++([]:List (DataW H)))) (d:=d1) (by simp)
  exact Nat.le_trans this hk
 refine(Am.Sq h0 wH h1 hb).mono fun e W' ⟨he,hg,hs,Wz⟩ => ?_
 subst he
 have aaP:∀x∈p0,x.block<W.heap.size:=fun x hx=>hW'.lt x (by simp[hx])
 have cH:∀x∈p1,x.block<W.heap.size:=fun x hx=>hW'.lt x (by simp[hx])
 have lD:∀ {p:List MemPlace},(∀x∈p,x.block<W.heap.size)→∀x∈p,match x with|.cell b off=>W'.cell? ⟨b,off,none⟩=W.cell? ⟨b,off,none⟩|.map b=>W'.heap[b]?=W.heap[b]?:=fun hp x hx=>by
  have hl:=hp x hx
  cases x with
  |cell b off =>
   show W'.cell? ⟨b,off,none⟩=W.cell? ⟨b,off,none⟩
   unfold World.cell?
   rw[Wz b hl]
  |map b=>exact Wz b hl
 have aaQ:DataW.trod enc Tryz.prog W' 0 (fun b=>decide (b<W.heap.size)) true J 48 v0.cells.toList=some (d0,p0) :=
  DataW.trod_stays (kids_book laid OH) (book_sized OH) (fun h=>by cases h) ⟨row,book_self _⟩ h0' (lD aaP) (fun x hx=>by simpa using aaP x hx)
 have ab_:DataW.trod enc Tryz.prog W' 0 (fun b=>decide (b<W.heap.size)) true fuel 23 v1.cells.toList=some (d1,p1) :=
  DataW.trod_stays (kids_book laid Wy) (book_sized Wy) (fun h=>by cases h) ⟨adO,book_self _⟩ Vi (lD cH) (fun x hx=>by simpa using cH x hx)
 exact⟨_,rfl,⟨_,[],_,[],_,[],hW',trodAll_cons_mk (shut_bool Tryz.underlying4 _) trodAll_mk0,trodAll_cons_mk ⟨J,aaQ⟩ (trodAll_cons_mk ⟨fuel,ab_⟩ trodAll_mk0),rfl,World.keptBut_mono (fun _ f=>f.elim) hg,fun h=>by cases h⟩⟩
set_option maxRecDepth 100000 in
theorem lifted (os:Os)(started:os.Started)(H:Type)(enc:TypeId×Value→H)(F:Stop.Interp):
  ReturnsInHanded {} Tryz.checked os 7 .any ((Rows.OpenSpec.upto Rows.txBareSpec).pre6 enc Tryz.prog Tryz.f7 Rows.txBareUptoRow.domain false) (((Rows.OpenSpec.upto Rows.txBareSpec).at F).post enc Tryz.prog Tryz.f7 false true false false):=by
 refine returnsInHanded_of_cond (C:=Tryz.checked) (s:=Rows.OpenSpec.upto Rows.txBareSpec) (k:=Rows.uptoSmall) rfl own started (by kernel_rfl) Tryz.func7
  (OpenSpec.witness (enc:=enc) (C:=Tryz.checked) (s:=Rows.OpenSpec.upto Rows.txBareSpec) (k:=Rows.uptoSmall) rfl false ⟨#[], #[.slice none 0 0,.slice none 0 0],[]⟩ 8 (by kernel_rfl) (by kernel_rfl) (by kernel_rfl)
   (x:=([.nil,.nil],[],[])) (by kernel_rfl) rfl (by kernel_rfl)) ?_
 intro W base args ds gs before I J _ hk _
 exact Ve H enc W base args ds gs before I J (of_decide_eq_true hk)
theorem cA : Rows.txBareUptoRow.holds Tryz.pinned (Rows.OpenSpec.upto Rows.txBareSpec) :=
 OpenClaim.holds_of_cond 7 Tryz.f7 rfl rfl rfl rfl rfl rfl rfl ⟨rfl,rfl,rfl,rfl,rfl⟩ rfl rfl rfl rfl rfl (by kernel_rfl) Tryz.func7 (by kernel_rfl)
  (of_decide_eq_true (by kernel_rfl)) (by unfold Func.isWrapper;first|(rw[if_pos (by decide +kernel)];kernel_rfl)|(rw[if_neg (by decide +kernel)];exact⟨rfl,rfl⟩))
  (fun os started H enc _ F=>lifted os started H enc F)
theorem proved : Rows.TxBareUptoSaid :=
 cA
#print axioms proved
end Go.Proofs.YtiojppeahfoiaaaGreat.TxBare
