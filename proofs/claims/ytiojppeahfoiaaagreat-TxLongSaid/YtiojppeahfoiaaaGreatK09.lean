/- 'munimentlaw13.TxLong' returns true, whatever its arguments, and nothing that lay before the call has turned. Conditions: none. -/
import Derived.Test.YtiojppeahfoiaaaGreatK08
import Derived.Test.YtiojppeahfoiaaaGreatK05
import Derived.WalkKit
import Derived.ProofKit
import Derived.OpenShut
import Derived.ChangeSlices
import Derived.Test.YtiojppeahfoiaaaGreatRows
namespace Go.Proofs.YtiojppeahfoiaaaGreat.Am
open Go
variable {h:H} {x0 x1 x2:Int} {S:List aP} {cs:List Value} {fuel B:Nat} {H':Type} {av bv mv:V}
def Y7 (c:Ctx): Prop:=∀id,id<c.N→c.X id=true
theorem JX {c c':Ctx}{w w':World}(hX:Y7 c)(h:bZ c w c' w'): w.keptBut w' (fun _=>False)∧w.heap.size≤w'.heap.size∧∀b,b<w.heap.size→w'.heap[b]?=w.heap[b]?:=by
 have J:∀b,b<w.heap.size→w'.heap[b]?=w.heap[b]?:=fun b hb=>h.jP b hb fun id I _=>hX id I
 refine⟨⟨h.sys.1,h.sys.2,fun i hi => ?_⟩,h.size,J⟩
 rw[J i hi]
 split<;>simp_all
end Go.Proofs.YtiojppeahfoiaaaGreat.Am
namespace Go.Proofs.YtiojppeahfoiaaaGreat.Am
open Go Go.ChangeShapes
variable {h:H} {x0 x1 x2:Int} {S:List aP} {cs:List Value} {fuel B:Nat} {H':Type} {av bv mv:V}
def Tf (W:World)(S:List aP)(c:Ctx)(σ:H): Prop:=Rel c σ W∧Y7 c∧Sat σ S
theorem Tf.zero (W:World): ∃c σ,Tf W [] c σ:=by
 refine⟨_,_,Rel.empty W,fun id h=>absurd h (DD _),⟨fun id o h=>by simp[T.tg] at h,fun _=>none,fun _=>none,fun _ _ h=>(by cases h),fun _ _ h=>(by cases h),fun _=>.inl rfl,aa⟩⟩
end Go.Proofs.YtiojppeahfoiaaaGreat.Am
namespace Go.Proofs.YtiojppeahfoiaaaGreat.Am
open Go Go.ChangeShapes Go.WideShapes Go.ChangeAt Go.RowKit
variable {h:H} {x0 x1 x2:Int} {S:List aP} {cs:List Value} {fuel B:Nat} {H':Type} {av bv mv:V}
end Go.Proofs.YtiojppeahfoiaaaGreat.Am
namespace Go.Proofs.YtiojppeahfoiaaaGreat.Am
open Go Go.ChangeShapes Go.WideShapes Go.ChangeAt Go.RowKit
variable {h:H} {x0 x1 x2:Int} {S:List aP} {cs:List Value} {fuel B:Nat} {H':Type} {av bv mv:V}
end Go.Proofs.YtiojppeahfoiaaaGreat.Am
namespace Go.Proofs.YtiojppeahfoiaaaGreat.Am
open Go Go.ChangeShapes Go.WideShapes Go.ChangeAt Go.RowKit
variable {h:H} {x0 x1 x2:Int} {S:List aP} {cs:List Value} {fuel B:Nat} {H':Type} {av bv mv:V}
noncomputable def M8 : List (Nat×P4):=[(76,AP),(136,u7 136),(159,u7 159),
 (208,M1 208),(80,u7 80),(79,u7 79),
 (26,MW CK 26),(191,MO)]
end Go.Proofs.YtiojppeahfoiaaaGreat.Am
namespace Go.Proofs.YtiojppeahfoiaaaGreat.Am
open Go
variable {h:H} {x0 x1 x2:Int} {S:List aP} {cs:List Value} {fuel B:Nat} {H':Type} {av bv mv:V}
noncomputable def M9 : List (Nat×P4):=(117,El)::(118,HO)::M8
noncomputable def M_ : Nat→Option (List V→H→Option (V×H)):=toldP M9 oA
noncomputable abbrev CY : eO:=⟨Tryz.prog,M_⟩
theorem EE : W M_:=K9 fun x I=>by
 simp only[M9,M8,jI,kZ,oR] at I
 rcases I with rfl|rfl|rfl|rfl|rfl|rfl|rfl|rfl|rfl|rfl<;>exact⟨by decide,by decide,by decide⟩
theorem I5 : ep CY:=IQ fun x I=>by
 simp only[M9,M8,jI,kZ,oR] at I
 rcases I with rfl|rfl|rfl|rfl|rfl|rfl|rfl|rfl|rfl|rfl
 ·exact⟨_,yQ,rfl,by decide⟩
 ·exact⟨_,HJ,rfl,by decide⟩
 ·exact⟨_,De,rfl,by decide⟩
 ·exact⟨_,Iz,rfl,by decide⟩
 ·exact⟨_,IA,rfl,by decide⟩
 ·exact⟨_,ID,rfl,by decide⟩
 ·exact⟨_,IC,rfl,by decide⟩
 ·exact⟨_,Ia,rfl,by decide⟩
 ·exact⟨_,IB,rfl,by decide⟩
 ·exact⟨_,It,rfl,by decide⟩
theorem Tg : WL M_:=⟨⟨⟨⟨⟨EE,rfl⟩,⟨EE,rfl⟩,rfl,rfl⟩,rfl⟩,rfl,rfl,rfl⟩,⟨EE,rfl,rfl⟩⟩
theorem Qn {W:World}{n0 n1:Int}: Calls Tryz.prog 5 #[.int .i64 n0,.int .i64 n1] W fun e w'=>e=.returned (.bool true)∧W.keptBut w' (fun _=>False):=by
 obtain⟨c,σ,J⟩:=Tf.zero W
 obtain⟨v',h',yo,rfl⟩:=V3 (n0:=n0) (n1:=n1) Tg J.2.2
 obtain⟨K,hK⟩:=yo
 have I:=(callF_ok (C:=CY) (wM ew I5 K).1 I5 hK J.1 (fun x hx=>by
  rcases List.mem_cons.1 hx with rfl|hx
  ·exact aa
  ·rw[List.mem_singleton.1 hx];exact aa)).1
 unfold eo at I
 refine Calls.mono I ?_
 rintro e w' ⟨c',rfl,_,_,hs⟩
 obtain⟨k1,k2,k3⟩:=JX J.2.1 hs
 exact⟨by simp[conc],k1⟩
end Go.Proofs.YtiojppeahfoiaaaGreat.Am
namespace Go.Proofs.YtiojppeahfoiaaaGreat.TxLong
open Go.ChangeShapes Go.WideShapes Go.ChangeAt Go.RowKit
theorem own : ownKnob Tryz.prog.godebug=none:=by kernel_rfl
set_option maxRecDepth 100000 in
theorem lifted (os:Os)(started:os.Started)(H:Type)(enc:TypeId×Value→H):
  ReturnsInHanded {} Tryz.checked os 5 .any (Rows.txLongSpec.pre6 enc Tryz.prog Tryz.f5 Rows.txLongRow.domain false) (Rows.txLongSpec.post enc Tryz.prog Tryz.f5 false true false false):=by
 refine returnsInHanded_of_change (C:=Tryz.checked) own started (by kernel_rfl) Tryz.func5
  (ChangeSpec.witness6 (enc:=enc) (C:=Tryz.checked) false ⟨#[], #[.int .i64 0,.int .i64 0],[]⟩ 8 (by kernel_rfl) (by kernel_rfl) (by kernel_rfl) (by kernel_rfl)) ?_
 intro W base args ds gs before I hW acS _
 have J:∀(j:Nat) t v,Tryz.f5.params[j]?=some t→args[j]?=some v→Value.okWide Tryz.prog W .any base t v:=I
 have hW':=hW
 obtain⟨p,q,hA0,hV,rfl,AU,nX⟩:=hW
 have hA:DataW.TrodAll enc Tryz.prog W 0 (fun _=>true) true Tryz.f5.params.toList args.toList ds p:=hA0
 rw[Tryz.params5] at hA J
 obtain⟨v0,vs0,d0,ds0,p0,q0,An,rfl,rfl,h0,r0⟩:=trodAll_cons hA
 obtain⟨v1,vs1,d1,ds1,p1,q1,rfl,rfl,rfl,h1,r1⟩:=trodAll_cons r0
 obtain⟨rfl,rfl,rfl⟩:=trodAll_nil r1
 obtain rfl:args = #[v0,v1]:=by cases args;simp_all
 obtain⟨rfl,rfl⟩:=trodVars_none hV
 obtain⟨a0,rfl,rfl,rfl,w0⟩:=open_int Tryz.underlying3 (J 0 3 v0 rfl rfl) h0
 obtain⟨a1,rfl,rfl,rfl,w1⟩:=open_int Tryz.underlying3 (J 1 3 v1 rfl rfl) h1
 clear hA0 I
 simp only[List.append_nil] at hW'
 refine(Am.Qn (n0:=a0) (n1:=a1)).mono fun e W' ⟨he,hg⟩ => ?_
 subst he
 exact⟨_,rfl,⟨_,[],_,[],[],[],hW',trodAll_cons_mk (shut_bool Tryz.underlying4 _) trodAll_mk0,trodAll_cons_mk (shut_int Tryz.underlying3 w0) (trodAll_cons_mk (shut_int Tryz.underlying3 w1) trodAll_mk0),rfl,World.keptBut_mono (fun _ f=>f.elim) hg,fun h=>by cases h⟩⟩
theorem bX : Rows.txLongRow.holds Tryz.pinned (OpenSpec.ofChange Rows.txLongSpec) :=
 OpenClaim.holds_of_wide 5 Tryz.f5 rfl rfl rfl rfl rfl rfl rfl ⟨rfl,rfl,rfl,rfl,rfl⟩ rfl rfl rfl rfl rfl (by kernel_rfl) Tryz.func5 (by kernel_rfl)
  (of_decide_eq_true (by kernel_rfl)) (by unfold Func.isWrapper;first|(rw[if_pos (by decide +kernel)];kernel_rfl)|(rw[if_neg (by decide +kernel)];exact⟨rfl,rfl⟩))
  (fun os started H enc _=>lifted os started H enc)
theorem proved : Rows.TxLongSaid :=
 bX
#print axioms proved
end Go.Proofs.YtiojppeahfoiaaaGreat.TxLong
