/- ChainKept: a part of its proof; conditions: its statement's. -/
import Derived.Test.YtefepnnfphdkpaaGreatRows
import Derived.Test.YtefepnnfphdkpaaGreatC35
import Derived.WalkKit
import Derived.ProofKit
import Derived.OpenShut
import Derived.JoinedCond
import Derived.ChangeBook
import Derived.ChangeStays
namespace Go.Proofs.YtefepnnfphdkpaaGreat.ChainKept
open Go.ChangeShapes Go.WideShapes Go.ChangeAt Go.RowKit
theorem Sg {n:Int}(h:(Lit.int .u8 n).wf=true): 0≤n:=by
 simp only [Lit.wf,Bool.and_eq_true,decide_eq_true_eq] at h
 have I:=h.1
 have e:IntKind.min .u8=0:=by decide
 rw [e] at I
 exact I
theorem own : ownKnob Tryz.prog.godebug=none:=by kernel_rfl
theorem laid : laidOutB Tryz.prog=true:=by kernel_rfl
theorem Sh : Tryz.prog.readableRec 33=true:=by kernel_rfl
theorem row : (33:TypeId)<Tryz.prog.types.size:=of_decide_eq_true (by kernel_rfl)
set_option maxRecDepth 100000 in
theorem M8 (H:Type)(enc:TypeId×Value→H)(W:World)(base:Nat)(args:Array Value)(ds gs:List (DataW H))(before:List MemPlace)
 (I:∀(j:Nat) t v,Tryz.f5.params[j]?=some t→args[j]?=some v→Value.okWide Tryz.prog W .any base t v)
 (hW:DataW.Whole enc Tryz.prog Tryz.f5.params.toList Rows.chainKeptSpec.vars false W args.toList ds gs before)(hk:Rows.uptoBulkAll (ds++gs)≤1048576):
  Calls Tryz.prog 5 args W fun e W'=>∃v,e=.returned v∧Rows.chainKeptSpec.post enc Tryz.prog Tryz.f5 false true false false W args v W':=by
 have Uw:=hW
 obtain ⟨p,q,Yg,hV,rfl,sN,nC⟩:=hW
 have hA:DataW.TrodAll enc Tryz.prog W 0 (fun _=>true) true Tryz.f5.params.toList args.toList ds p:=Yg
 rw [Tryz.params5] at hA I
 obtain ⟨v0,Zn,d0,Zo,p0,q0,wQ,rfl,rfl,h0,r0⟩:=trodAll_cons hA
 obtain ⟨v1,Zp,d1,Zq,p1,q1,rfl,rfl,rfl,h1,r1⟩:=trodAll_cons r0
 obtain ⟨rfl,rfl,rfl⟩:=trodAll_nil r1
 obtain rfl:args = #[v0,v1]:=by cases args; simp_all
 obtain ⟨rfl,rfl⟩:=trodVars_none hV
 obtain ⟨a1,rfl,rfl,rfl,w1⟩:=open_int Tryz.underlying5 (I 1 5 v1 rfl rfl) h1
 obtain ⟨fuel,h0⟩:=h0
 have qW:v0.cells.toList=[v0]:=by
  have:=I 0 33 v0 rfl rfl
  simp only [Value.okWide,Tryz.underlying33,Cell.okWide,Cell.ok] at this
  split at this <;> first | rfl | exact this.elim
 have Yh:=h0
 rw [qW] at h0
 have hb:Rows.uptoBulk d0≤1048576:=by
  have:=Am.Ch (l:=([d0,DataW.lit (Lit.int .u8 a1)]++([]:List (DataW H)))) (d:=d0) (by simp)
  exact Nat.le_trans this hk
 refine (Am.Iw (f:=a1) h0 hb (Sg w1)).mono fun e W' ⟨he,hg,hs,J⟩ => ?_
 subst he
 have a_:∀x∈p0,x.block<W.heap.size:=fun x hx=>Uw.lt x (by simp [hx])
 have wB:DataW.trod enc Tryz.prog W' 0 (fun b=>decide (b<W.heap.size)) true fuel 33 v0.cells.toList=some (d0,p0) :=
  DataW.trod_stays (kids_book laid Sh) (book_sized Sh) (fun h=>by cases h) ⟨row,book_self _⟩ Yh (fun x hx=>by
   have hl:=a_ x hx
   cases x with
   | cell b off =>
    show W'.cell? ⟨b,off,none⟩=W.cell? ⟨b,off,none⟩
    unfold World.cell?
    rw [J b hl]
   | map b=>exact J b hl) (fun x hx=>by simpa using a_ x hx)
 exact ⟨_,rfl,⟨_,[],_,[],_,[],Uw,trodAll_cons_mk (shut_bool Tryz.underlying4 _) trodAll_mk0,trodAll_cons_mk ⟨fuel,wB⟩ (trodAll_cons_mk (shut_int Tryz.underlying5 w1) trodAll_mk0),rfl,World.keptBut_mono (fun _ f=>f.elim) hg,fun h=>by cases h⟩⟩
set_option maxRecDepth 100000 in
theorem lifted (os:Os)(started:os.Started)(H:Type)(enc:TypeId×Value→H)(F:Stop.Interp):
  ReturnsInHanded {} Tryz.checked os 5 .any ((Rows.OpenSpec.upto Rows.chainKeptSpec).pre6 enc Tryz.prog Tryz.f5 Rows.chainKeptUptoRow.domain false) (((Rows.OpenSpec.upto Rows.chainKeptSpec).at F).post enc Tryz.prog Tryz.f5 false true false false):=by
 refine returnsInHanded_of_cond (C:=Tryz.checked) (s:=Rows.OpenSpec.upto Rows.chainKeptSpec) (k:=Rows.uptoSmall) rfl own started (by kernel_rfl) Tryz.func5
  (OpenSpec.witness (enc:=enc) (C:=Tryz.checked) (s:=Rows.OpenSpec.upto Rows.chainKeptSpec) (k:=Rows.uptoSmall) rfl false ⟨#[], #[.slice none 0 0,.int .u8 0],[]⟩ 8 (by kernel_rfl) (by kernel_rfl) (by kernel_rfl)
   (x:=([.nil,.lit (.int .u8 0)],[],[])) (by kernel_rfl) rfl (by kernel_rfl)) ?_
 intro W base args ds gs before I J _ hk _
 exact M8 H enc W base args ds gs before I J (of_decide_eq_true hk)
theorem bK : Rows.chainKeptUptoRow.holds Tryz.pinned (Rows.OpenSpec.upto Rows.chainKeptSpec) :=
 OpenClaim.holds_of_cond 5 Tryz.f5 rfl rfl rfl rfl rfl rfl rfl ⟨rfl,rfl,rfl,rfl,rfl⟩ rfl rfl rfl rfl rfl (by kernel_rfl) Tryz.func5 (by kernel_rfl)
  (of_decide_eq_true (by kernel_rfl)) (by unfold Func.isWrapper; first | (rw [if_pos (by decide +kernel)]; kernel_rfl) | (rw [if_neg (by decide +kernel)]; exact ⟨rfl,rfl⟩))
  (fun os started H enc _ F=>lifted os started H enc F)
theorem proved : Rows.ChainKeptUptoSaid :=
 bK
#print axioms proved
end Go.Proofs.YtefepnnfphdkpaaGreat.ChainKept
