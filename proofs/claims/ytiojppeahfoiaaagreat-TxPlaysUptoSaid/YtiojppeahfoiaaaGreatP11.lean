/- TxPlays: whatever transactions do, one among the other, each counter holds the sum of all that was added and not undone, and who is active is told. Conditions: the row's own. -/
import Derived.Test.YtiojppeahfoiaaaGreatRows
import Derived.Test.YtiojppeahfoiaaaGreatP10
import Derived.WalkKit
import Derived.ProofKit
import Derived.OpenShut
import Derived.JoinedCond
import Derived.ChangeBook
import Derived.ChangeStays
namespace Go.Proofs.YtiojppeahfoiaaaGreat.TxPlays
open Go.ChangeShapes Go.WideShapes Go.ChangeAt Go.RowKit
theorem own : ownKnob Tryz.prog.godebug=none:=by kernel_rfl
theorem laid : laidOutB Tryz.prog=true:=by kernel_rfl
theorem aeA : Tryz.prog.readableRec 48=true:=by kernel_rfl
theorem row : (48:TypeId)<Tryz.prog.types.size:=of_decide_eq_true (by kernel_rfl)
set_option maxRecDepth 100000 in
theorem Y6 (H:Type)(enc:TypeId×Value→H)(W:World)(base:Nat)(args:Array Value)(ds gs:List (DataW H))(before:List MemPlace)
 (I:∀(j:Nat) t v,Tryz.f8.params[j]?=some t→args[j]?=some v→Value.okWide Tryz.prog W .any base t v)
 (hW:DataW.Whole enc Tryz.prog Tryz.f8.params.toList Rows.txPlaysSpec.vars false W args.toList ds gs before)(hk:Rows.uptoBulkAll (ds++gs)≤1048576):
  Calls Tryz.prog 8 args W fun e W'=>∃v,e=.returned v∧Rows.txPlaysSpec.post enc Tryz.prog Tryz.f8 false true false false W args v W':=by
 have hW':=hW
 obtain⟨p,q,hA0,hV,rfl,Ep,mh⟩:=hW
 have hA:DataW.TrodAll enc Tryz.prog W 0 (fun _=>true) true Tryz.f8.params.toList args.toList ds p:=hA0
 rw[Tryz.params8] at hA I
 obtain⟨v0,vs0,d0,ds0,p0,q0,yf,rfl,rfl,h0,r0⟩:=trodAll_cons hA
 obtain⟨v1,vs1,d1,ds1,p1,q1,rfl,rfl,rfl,h1,r1⟩:=trodAll_cons r0
 obtain⟨rfl,rfl,rfl⟩:=trodAll_nil r1
 obtain rfl:args = #[v0,v1]:=by cases args;simp_all
 obtain⟨rfl,rfl⟩:=trodVars_none hV
 obtain⟨a0,rfl,rfl,rfl,w0⟩:=open_int Tryz.underlying3 (I 0 3 v0 rfl rfl) h0
 obtain⟨fuel,h1⟩:=h1
 have AF:v1.cells.toList=[v1]:=by
  have:=I 1 48 v1 rfl rfl
  simp only[Value.okWide,Tryz.underlying48,Cell.okWide,Cell.ok] at this
  split at this<;>first|rfl|exact this.elim
 have OM:=h1
 rw[AF] at h1
 have hb:Rows.uptoBulk d1≤1048576:=by
  have:=Am.J8 (l:=([DataW.lit (Lit.int .i64 a0),d1]++([]:List (DataW H)))) (d:=d1) (by simp)
  exact Nat.le_trans this hk
 refine(Am.Sh (n:=a0) h1 hb).mono fun e W' ⟨he,hg,hs,J⟩ => ?_
 subst he
 have bY:∀x∈p1,x.block<W.heap.size:=fun x hx=>hW'.lt x (by simp[hx])
 have af2:DataW.trod enc Tryz.prog W' 0 (fun b=>decide (b<W.heap.size)) true fuel 48 v1.cells.toList=some (d1,p1) :=
  DataW.trod_stays (kids_book laid aeA) (book_sized aeA) (fun h=>by cases h) ⟨row,book_self _⟩ OM (fun x hx=>by
   have hl:=bY x hx
   cases x with
   |cell b off =>
    show W'.cell? ⟨b,off,none⟩=W.cell? ⟨b,off,none⟩
    unfold World.cell?
    rw[J b hl]
   |map b=>exact J b hl) (fun x hx=>by simpa using bY x hx)
 exact⟨_,rfl,⟨_,[],_,[],_,[],hW',trodAll_cons_mk (shut_bool Tryz.underlying4 _) trodAll_mk0,trodAll_cons_mk (shut_int Tryz.underlying3 w0) (trodAll_cons_mk ⟨fuel,af2⟩ trodAll_mk0),rfl,World.keptBut_mono (fun _ f=>f.elim) hg,fun h=>by cases h⟩⟩
set_option maxRecDepth 100000 in
theorem lifted (os:Os)(started:os.Started)(H:Type)(enc:TypeId×Value→H)(F:Stop.Interp):
  ReturnsInHanded {} Tryz.checked os 8 .any ((Rows.OpenSpec.upto Rows.txPlaysSpec).pre6 enc Tryz.prog Tryz.f8 Rows.txPlaysUptoRow.domain false) (((Rows.OpenSpec.upto Rows.txPlaysSpec).at F).post enc Tryz.prog Tryz.f8 false true false false):=by
 refine returnsInHanded_of_cond (C:=Tryz.checked) (s:=Rows.OpenSpec.upto Rows.txPlaysSpec) (k:=Rows.uptoSmall) rfl own started (by kernel_rfl) Tryz.func8
  (OpenSpec.witness (enc:=enc) (C:=Tryz.checked) (s:=Rows.OpenSpec.upto Rows.txPlaysSpec) (k:=Rows.uptoSmall) rfl false ⟨#[], #[.int .i64 0,.slice none 0 0],[]⟩ 8 (by kernel_rfl) (by kernel_rfl) (by kernel_rfl)
   (x:=([.lit (.int .i64 0),.nil],[],[])) (by kernel_rfl) rfl (by kernel_rfl)) ?_
 intro W base args ds gs before I J _ hk _
 exact Y6 H enc W base args ds gs before I J (of_decide_eq_true hk)
theorem cn : Rows.txPlaysUptoRow.holds Tryz.pinned (Rows.OpenSpec.upto Rows.txPlaysSpec) :=
 OpenClaim.holds_of_cond 8 Tryz.f8 rfl rfl rfl rfl rfl rfl rfl ⟨rfl,rfl,rfl,rfl,rfl⟩ rfl rfl rfl rfl rfl (by kernel_rfl) Tryz.func8 (by kernel_rfl)
  (of_decide_eq_true (by kernel_rfl)) (by unfold Func.isWrapper;first|(rw[if_pos (by decide +kernel)];kernel_rfl)|(rw[if_neg (by decide +kernel)];exact⟨rfl,rfl⟩))
  (fun os started H enc _ F=>lifted os started H enc F)
theorem proved : Rows.TxPlaysUptoSaid :=
 cn
#print axioms proved
end Go.Proofs.YtiojppeahfoiaaaGreat.TxPlays
