/- SpaceAll: a part of its proof; conditions: its statement's. -/
import Derived.Test.YtefepnnfphdkpaaGreatA19
set_option linter.defProp false
namespace Go.Proofs.YtefepnnfphdkpaaGreat.Am
open Go
def CA:=@Tryz.underlying239
section
variable {told:cX} {h:H} {S:List au} {X:au} {k:Nat} {v:V} {l:List Nat}
theorem CC (I:W told){n z:Nat}(s:Sat h (bg v l::S))(J:z≤8)(hl:l.length+z≤140737488355328):
  Call ⟨Tryz.prog,told⟩ 95 [v,.int .i64 (z:Int),.int .u64 (n:Int)] h fun r h'=>Sat h' (bg r (l++le z n)::S) :=
 (Io I.L_ s.wf (s.buf (k:=0) rfl) J hl).mono fun _ _ ⟨h1,h2,h3⟩=>s.vz h2 h1 h3
theorem mR (hT:W told){a z n:Nat}(s:Sat h (bg v l::S))(hz:1≤z)(Iy:z≤8)(hl:a+z≤l.length)(iN:l.length≤65536):
  Call ⟨Tryz.prog,told⟩ 99 [.agg [v],.int .i64 (a:Int),.int .i64 (z:Int),.int .u64 (n:Int)] h fun r h'=>r=.aX []∧Sat h' (bg v (aR l a (le z n))::S):=by
 obtain ⟨I,_,cap,_,rfl,_⟩:=s.eo (by omega)
 refine Call.of_wp (hT.free _ rfl) Tryz.func99 rfl rfl (zg rfl ?_)
 refine az.cx s rfl rfl rfl (fB rfl rfl) (fun p4 h s => ?_)
 refine zv ?_
 have s0:=s
 refine WP.drawn [some (0,2),some (0,2),some (0,2),some (0,2),some (0,2),some (0,2),some (0,2),ak,ak,ak,ak] rfl (by kernel_rfl) (by kernel_rfl) ?_
 refine zF rfl (fe _ _) (zL rfl (s.ld (k:=0) rfl cy rfl) (zM rfl (zM rfl (zM rfl (zO rfl (ag rfl rfl (by exact aV (aA (by omega) (by omega)))) ?_)))))
 have ez:((a:Int)+(z:Int)).toNat=a+z:=by omega
 have ea:((a:Int)).toNat=a:=by omega
 refine zO rfl (eD (p:=some (.int .i64 (a:Int))) (q:=some (.int .i64 ((a:Int)+(z:Int)))) (m:=none) (p':=some a) (q':=some (a+z)) (m':=none) rfl rfl rfl rfl (by rw [dZ (by omega),ea]) (by rw [dZ (by omega),ez]) rfl (ic (s.buf (k:=1) rfl).view (by omega) hl).1) ?_
 refine zM rfl (zM rfl (aD.any rfl rfl rfl rfl (OpR.call rfl rfl rfl rfl (CC hT s.Ig Iy (by simp; omega))) ?_))
 intro u h s
 have s:=s.ae [1,1,0]
 dsimp only [List.nil_append,V.cells,List.length_cons,List.length_nil,Nat.reduceAdd,bringA,getA,bk] at s
 have s1:=s
 refine aD.any rfl rfl rfl rfl (OpR.QO rfl (s.ae [1,1]) (bz _ _) rfl rfl rfl rfl (by omega) hl (by simp [dw]; omega)) ?_
 intro r h s
 have hs:∃q c,slR (V.sl I 0 l.length cap) a (a+z)=.sl I q (a+z-a) c:=by
  cases cap with
  | exact c=>exact ⟨_,_,rfl⟩
  | rest e alt=>exact ⟨_,_,rfl⟩
 obtain ⟨q,c,hs⟩:=hs
 have J:(slR (V.sl I 0 l.length cap) a (a+z)).beq (slR (V.sl I 0 l.length cap) a (a+z))=true:=by rw [hs]; exact ya _ _ _ _
 refine aD.nil ⟨⟨fun _ _=>.inr ⟨rfl,⟨_,nq rfl (fe _ _)⟩,bP _ rfl⟩,fh (.inr ⟨rfl,⟨_,bp rfl (s0.ld (k:=0) rfl cy rfl)⟩,bP _ rfl⟩) (.inr ⟨rfl,⟨_,bp rfl (s1.ld (k:=0) rfl cy rfl)⟩,bP _ rfl⟩),fun _ _=>.inr ⟨rfl,⟨_,bT rfl⟩,bP _ rfl⟩,fun _ _=>.inr ⟨rfl,⟨_,bT rfl⟩,bP _ rfl⟩,fun _ _=>.inr ⟨rfl,⟨_,bT rfl⟩,bP _ rfl⟩,fun _ _=>.inr ⟨rfl,⟨_,ag rfl rfl (by exact aV (aA (by omega) (by omega)))⟩,bP _ rfl⟩,fh (.inr ⟨rfl,⟨_,eD (p:=some (.int .i64 (a:Int))) (q:=some (.int .i64 ((a:Int)+(z:Int)))) (m:=none) (p':=some a) (q':=some (a+z)) (m':=none) rfl rfl rfl rfl (by rw [dZ (by omega),ea]) (by rw [dZ (by omega),ez]) rfl (ic (s0.buf (k:=1) rfl).view (by omega) hl).1⟩,J⟩) (.inr ⟨rfl,⟨_,eD (p:=some (.int .i64 (a:Int))) (q:=some (.int .i64 ((a:Int)+(z:Int)))) (m:=none) (p':=some a) (q':=some (a+z)) (m':=none) rfl rfl rfl rfl (by rw [dZ (by omega),ea]) (by rw [dZ (by omega),ez]) rfl (ic (s1.buf (k:=1) rfl).view (by omega) hl).1⟩,J⟩),aa,aa,aa,aa,aa⟩,?_⟩
 refine ⟨aa,_,rfl,rfl,?_⟩
 rw [show a+z-a=z by omega,eA (by rw [dw]; omega)] at s
 exact (s.del 1).del 1
theorem qg (hT:W told)(s:Sat h (X::S))(hX:cN X (cQ v l))(J:l.length<9223372036854775808):
  Call ⟨Tryz.prog,told⟩ 153 [v] h fun r h'=>Sat h' (X::S)∧((bN l=true∧r=.aX [.agg [v],.int .i64 0])∨(bN l=false∧r=.aX [.agg [.bq],.int .i64 4])):=by
 have hv:=s.aK (k:=0) rfl hX
 refine Call.of_wp (hT.free _ rfl) Tryz.func153 rfl rfl (zg rfl ?_)
 refine az.cx s rfl rfl rfl (cz h_) (fun p2 h s => ?_)
 refine zk 6 rfl (zc rfl (EZ hT (s.ae [1]) hX J) ?_)
 rintro r h' ⟨rfl,s⟩
 cases hg:bN l with
 | true =>
  have I:1≤l.length:=by
   have:l.length=512:=by simp only [bN,aG,dR] at hg; exact hg.1
   omega
  obtain ⟨pi,po,pc,rfl⟩:=gw hv I
  refine zo rfl (eP rfl rfl) (zk 6 rfl (zo rfl (cW rfl (by rw [vF]; rfl)) ?_))
  refine zS rfl (s.ik (j:=1) rfl aW rfl rfl) (fun h s => ?_)
  refine zk 2 rfl ?_
  refine WP.ret ⟨aa,_,BA rfl (s.cG (k:=1) rfl bM aW) rfl,?_⟩
  exact ⟨s.del 1,.inl ⟨rfl,rfl⟩⟩
 | false =>
  refine zo rfl (eP rfl rfl) (zk 4 rfl (zo rfl (cW rfl (by rw [vF]; rfl)) ?_))
  refine zS rfl (s.ik (j:=1) rfl aW rfl rfl) (fun h s => ?_)
  refine zk 2 rfl ?_
  refine WP.ret ⟨aa,_,BA rfl (s.cG (k:=1) rfl bM aW) rfl,?_⟩
  exact ⟨s.del 1,.inr ⟨rfl,rfl⟩⟩
theorem gx (I:bN l=true): l.length=512:=by simp only [bN,aG,dR] at I; exact I.1
theorem qG (hT:W told)(s:Sat h (X::S))(J:cN X (cQ v l))(iN:l.length<9223372036854775808):
  Call ⟨Tryz.prog,told⟩ 100 [v] h fun r h'=>(bN l=true∧∃u,r=.aX [.agg [u],.int .i64 0]∧Sat h' (bg u l::X::S))∨(bN l=false∧r=.aX [.agg [.bq],.int .i64 4]∧Sat h' (X::S)):=by
 have hv:=s.aK (k:=0) rfl J
 refine Call.of_wp (hT.free _ rfl) Tryz.func100 rfl rfl (zg rfl ?_)
 refine az.cx s rfl rfl rfl (cz h_) (fun p2 h s => ?_)
 refine zk 5 rfl (zc rfl (qg hT (s.ae [1]) J iN) ?_)
 rintro r h' ⟨s,(⟨I,rfl⟩ | ⟨I,rfl⟩)⟩
 ·have S6:=gx I
  obtain ⟨pi,po,pc,rfl⟩:=gw hv (by omega)
  refine zk 3 rfl ?_
  refine az.cx s rfl rfl rfl (cz h_) (fun p4 h s => ?_)
  refine zS rfl (s.ik (j:=0) rfl aW rfl rfl) (fun h s => ?_)
  refine zk 6 rfl (zh rfl (ag rfl rfl aF) (rfl) (zk 4 rfl ?_))
  have s0:=s
  refine WP.drawn [ak,ak,ak,ak,some (0,2),some (0,2),ak,ak,ak,ak] rfl (by kernel_rfl) (by kernel_rfl) ?_
  refine zF rfl (fe _ _) (zL rfl (s.ld (k:=0) rfl cy rfl) (zO rfl (aQ rfl rfl rfl (nA rfl aM)) (aD.any rfl rfl rfl rfl (OpR.rZ rfl s rfl rfl rfl rfl (by omega)) ?_)))
  intro u h s
  have s:=s.ae [1,1,1,0]
  have s1:=s
  refine zF rfl (fe _ _) (zL rfl (s.ld (k:=0) rfl cy rfl) (aD.any rfl rfl rfl rfl (OpR.qU rfl (s.ae [3,1]) J rfl rfl rfl rfl (by simp; omega)) ?_))
  intro u2 h s
  rw [dh] at s
  obtain ⟨qd,_,cap,_,rfl,_⟩:=s.eo (by omega)
  have s2:=s
  refine zO rfl (cW rfl (by rw [vF]; rfl)) ?_
  refine aD.lQ rfl rfl rfl (OpR.AX rfl rfl rfl (s.ik (j:=3) rfl aW rfl rfl)) ?_
  rintro w h ⟨rfl,s⟩
  have s3:=s
  refine zA rfl ?_
  refine aD.nil ⟨⟨aa,aa,aa,aa,fun _ _=>.inr ⟨rfl,⟨_,nq rfl (fe _ _)⟩,bP _ rfl⟩,fh (.inr ⟨rfl,⟨_,bp rfl (s0.ld (k:=0) rfl cy rfl)⟩,bP _ rfl⟩) (.inr ⟨rfl,⟨_,bp rfl (s1.ld (k:=0) rfl cy rfl)⟩,bP _ rfl⟩),aa,aa,aa,aa,aa⟩,?_⟩
  refine WP.ret ⟨aa,_,BA rfl (s.cG (k:=3) rfl bM aW) rfl,?_⟩
  exact .inl ⟨I,_,rfl,(s.del 2).del 2⟩
 ·skip
  refine zk 3 rfl ?_
  refine az.cx s rfl rfl rfl (cz h_) (fun p4 h s => ?_)
  refine zS rfl (s.ik (j:=0) rfl aW rfl rfl) (fun h s => ?_)
  refine zk 6 rfl (zt rfl (ag rfl rfl aF) (rfl) (zk 4 rfl (zo rfl (cW rfl (by rw [vF]; rfl)) ?_)))
  refine zm rfl ?_
  refine zS rfl (s.ik (j:=2) rfl aW rfl rfl) (fun h s => ?_)
  refine zk 2 rfl ?_
  refine WP.ret ⟨aa,_,BA rfl (s.cG (k:=2) rfl bM aW) rfl,?_⟩
  exact .inr ⟨I,rfl,(s.del 2).del 0⟩
def lq (l:List Nat)(n:Nat): List Nat:=aR l 4 (le 8 n)
def cO (l:List Nat)(n:Nat): List Nat:=aR (lq l n) 0 (le 4 (uD 0 ((lq l n).drop 4)))
theorem sU {n:Nat}(I:l.length=512): (lq l n).length=512:=by rw [lq,cm (by rw [dw]; omega),I]
theorem Nb (I:W told){n:Nat}(s:Sat h (X::S))(hX:cN X (cQ v l))(iN:l.length<9223372036854775808):
  Call ⟨Tryz.prog,told⟩ 127 [v,.int .u64 (n:Int)] h fun r h'=>(bN l=true∧∃u,r=.aX [u,.int .i64 0]∧Sat h' (bg u (cO l n)::X::S))∨(bN l=false∧r=.aX [.bq,.int .i64 4]∧Sat h' (X::S)):=by
 refine Call.of_wp (I.free _ rfl) Tryz.func127 rfl rfl (zK 8 rfl (zc rfl (qG I s hX iN) ?_))
 rintro r h' (⟨hg,u,rfl,s⟩ | ⟨hg,rfl,s⟩)
 ·have J:=gx hg
  have Mb:(lq l n).length=512:=sU J
  obtain ⟨qd,_,cap,_,rfl,_⟩:=s.eo (by omega)
  refine zk 3 rfl ?_
  refine az.cx s rfl rfl rfl (cz h_) (fun p6 h s => ?_)
  refine zS rfl (s.ik (j:=0) rfl aW rfl rfl) (fun h s => ?_)
  refine zk 6 rfl (zh rfl (ag rfl rfl aF) (rfl) (zk 5 rfl (zl rfl (s.cG (k:=0) rfl bM aW) (zm rfl (zc rfl (mR (a:=4) (z:=8) I (s.ae [1]) (by decide) (by decide) (by omega) (by omega)) ?_)))))
  rintro r h' ⟨rfl,s⟩
  have s:=s.ae [1,0]
  have s:Sat _ (_::bg _ (lq l n)::_):=s
  refine zk 2 rfl ?_
  have s0:=s
  have PA:=(s.buf (k:=1) rfl).view.1
  have ec:(lq l n).length=l.length:=by omega
  rw [←ec] at *
  refine WP.drawn [some (0,2),ak,ak,ak,ak,ak,ak] rfl (by kernel_rfl) (by kernel_rfl) ?_
  refine zL rfl (s.cG (k:=0) rfl bM aW) (zF rfl (fe _ _) (zL rfl (s.ld (k:=0) rfl cy rfl) (zO rfl (eD (p:=some (.int .i64 4)) (q:=none) (m:=none) (p':=some 4) (q':=none) (m':=none) rfl rfl rfl rfl rfl rfl rfl (jg (s.buf (k:=1) rfl).view (a:=4) (by omega)).1) ?_)))
  refine aD.any rfl rfl rfl rfl (OpR.call rfl rfl rfl rfl (Ma I s (k:=1) rfl (ET (bz _ _) (a:=4) (by omega)) (by simp; omega))) ?_
  rintro r h' ⟨rfl,rfl⟩
  have s1:=s
  have hc:=wP (s:=0) (l:=(lq l n).drop 4) (by decide) (fun x hx=>PA x (gj hx))
  refine aD.op rfl rfl rfl (by simp only [isEff,cS]) (cM rfl (by exact jf Tryz.underlying231 cS (fT (by omega) (by omega)))) ?_
  refine aD.any rfl rfl rfl rfl (OpR.call rfl rfl rfl rfl (mR (a:=0) (z:=4) I (s.ae [1]) (by decide) (by decide) (by omega) (by omega))) ?_
  rintro r h ⟨rfl,s⟩
  have s:=s.ae [1,0]
  refine aD.nil ⟨⟨fh (.inr ⟨rfl,⟨_,bp rfl (s0.cG (k:=0) rfl bM aW)⟩,bP _ rfl⟩) (.inr ⟨rfl,⟨_,bp rfl (s1.cG (k:=0) rfl bM aW)⟩,bP _ rfl⟩),aa,aa,aa,aa,aa,aa,aa⟩,?_⟩
  exact zg rfl (zf rfl (fe _ _) (zl rfl (s.ld (k:=0) rfl cy rfl) (zk 3 rfl (WP.ret ⟨aa,_,rfl,.inl ⟨hg,_,rfl,s.drop⟩⟩))))
 ·skip
  refine zk 3 rfl ?_
  refine az.cx s rfl rfl rfl (cz h_) (fun p6 h s => ?_)
  refine zS rfl (s.ik (j:=0) rfl aW rfl rfl) (fun h s => ?_)
  exact zk 6 rfl (zt rfl (ag rfl rfl aF) (rfl) (zk 8 rfl (WP.ret ⟨aa,_,rfl,.inr ⟨hg,rfl,s.drop⟩⟩)))
theorem S7 {P:Program}{E:List (Nat×V)}{d:TypeId}{x:Operand}{r:V}(I:lookO E x=some v)(J:arrPtrV P d v=some r): opE P E h (.sliceToArrayPointer d x)=some (r,h):=by simp only [opE,gY,I,J,aJ]
theorem Nc {P:Program}{t:TypeId}{id off n:Nat}{cap:Cap}(hv:View h (.sl id off n cap) l)(I:bS P t=some true)(hs:bh P t=some l.length): loadV P h t (.ptr id off)=some (.agg (ofBytes l)):=by
 have:=hv.rdN
 obtain ⟨rfl,J⟩:=this
 simp only [loadV,I,hs,J,gN]
theorem Br : ∀(l m:List Nat),l.length=m.length→intsBeq .u8 (ofBytes l) (ofBytes m)=some (decide (l=m)):=by
 intro l
 induction l with
 | nil=>intro m hm; cases m with
  | nil=>rfl
  | cons x m=>simp at hm
 | cons x l J=>intro m hm; cases m with
  | nil=>simp at hm
  | cons y m =>
   have hi:=J m (by simpa using hm)
   simp only [ofBytes,bX] at hi ⊢
   simp only [intsBeq,ikBeq,eN,af,hi,kV]
   by_cases I:x=y
   ·subst I; simp
   ·have:¬ ((x:Int)=(y:Int)):=by omega
    simp [this,I]
theorem KF : buildV Tryz.prog 239 []=some (.agg (ofBytes (List.replicate 512 0))):=by kernel_rfl
theorem Mc {P:Program}{t e:TypeId}{n:Nat}{x y:Operand}{m:List Nat}(hu:P.underlying t=some (.array n e))(he:P.underlying e=some (.int .u8))(hs:bh P e=some 1)(I:l.length=n)(hm:m.length=n):
  binV P h .eql t x y (.agg (ofBytes l)) (.agg (ofBytes m))=some (.bool (decide (l=m))):=by
 simp only [binV,eqArr,hu,he,hs,bZ,I,hm,dm,eN,af]
 rw [Br l m (by omega)]
 rfl
def fW (l:List Nat): Int:=if l=List.replicate 512 0 then 0 else if bN l=false then 4 else if cC l 0 4≠uD 0 (l.drop 4) then 8 else 0
theorem CD (hT:W told)(s:Sat h (X::S))(J:cN X (cQ v l))(iN:l.length<9223372036854775808):
  Call ⟨Tryz.prog,told⟩ 125 [v] h fun r h'=>r=.int .i64 (fW l)∧Sat h' (X::S):=by
 have hv:=s.aK (k:=0) rfl J
 have hz:(List.replicate 512 0).length=512:=c8
 -- what follows when the page is no page of noughts
 refine Call.of_wp (hT.free _ rfl) Tryz.func125 rfl rfl (zK 8 rfl (zo rfl (aQ rfl rfl rfl (bw aM (s.aK (k:=0) rfl J))) ?_))
 refine zd rfl (ag rfl rfl iJ) ?_ ?_
 ·intro hq
  have hq:l.length=512:=by simp at hq; omega
  obtain ⟨pi,po,pc,rfl⟩:=gw hv (by omega)
  refine zk 2 rfl (zo rfl (S7 (r:=.ptr pi po) rfl (by simp only [arrPtrV,CA]; rw [hq]; rfl)) ?_)
  refine zl rfl (Nc hv QJ (by rw [hq]; exact QI)) ?_
  refine zo rfl (cW rfl KF) ?_
  by_cases hn:l=List.replicate 512 0
  ·skip
   exact zt rfl (ag rfl rfl (Mc CA Tryz.underlying5 RB hq hz)) (decide_eq_true hn) (zk 7 rfl (WP.ret ⟨aa,_,rfl,by rw [fW,aq hn],s⟩))
  ·skip
   refine zh rfl (ag rfl rfl (Mc CA Tryz.underlying5 RB hq hz)) (decide_eq_false hn) (zk 7 rfl (zc rfl (qg hT s J iN) ?_))
   rintro r h' ⟨s,(⟨hg,rfl⟩ | ⟨hg,rfl⟩)⟩
   ·refine az.op rfl rfl rfl (bT rfl) ?_
    refine zk 2 rfl ?_
    refine az.cx s rfl rfl rfl (cz h_) (fun p3 h s => ?_)
    dsimp only [V.cells,List.length_cons,List.length_nil,Nat.reduceAdd] at s
    refine zS rfl (s.ik (j:=0) rfl aW rfl rfl) (fun h s => ?_)
    dsimp only [setA] at s
    refine zk 3 rfl (WP.block (zK 3 rfl (zh rfl (ag rfl rfl aF) (rfl) (zk 4 rfl ?_))))
    have s0:=s
    refine WP.drawn [none,none,some (0,2),some (0,2),ak,ak,ak,ak] rfl (by kernel_rfl) (by kernel_rfl) ?_
    refine zL rfl (s.cG (k:=0) rfl bM aW) (aD.any rfl rfl rfl rfl (OpR.call rfl rfl rfl rfl (qf hT s (k:=1) rfl J (by decide) (by decide) (by decide) (by omega) (by omega))) ?_)
    rintro r h' ⟨rfl,s⟩
    have s1:=s
    refine zM rfl (zO rfl (eD (p:=some (.int .i64 4)) (q:=none) (m:=none) (p':=some 4) (q':=none) (m':=none) rfl rfl rfl rfl rfl rfl rfl (jg (s.aK (k:=1) rfl J) (a:=4) (by omega)).1) ?_)
    refine aD.any rfl rfl rfl rfl (OpR.call rfl rfl rfl rfl (Ma hT s (k:=1) rfl (ET J (a:=4) (by omega)) (by simp; omega))) ?_
    rintro r h' ⟨rfl,rfl⟩
    have hc:=wP (s:=0) (l:=l.drop 4) (by decide) (fun x hx=>hv.1 x (gj hx))
    have hs:∃q c,slR (V.sl pi po l.length pc) 4 l.length=.sl pi q (l.length-4) c:=by
     cases pc with
     | exact c=>exact ⟨_,_,rfl⟩
     | rest e alt=>exact ⟨_,_,rfl⟩
    obtain ⟨q,c,hs⟩:=hs
    have Me:(slR (V.sl pi po l.length pc) 4 l.length).beq (slR (V.sl pi po l.length pc) 4 l.length)=true:=by rw [hs]; exact ya _ _ _ _
    refine aD.op rfl rfl rfl (by simp only [isEff,bG]) (cM rfl (by exact jf Tryz.underlying231 bG (aA (by omega) (by omega)))) ?_
    by_cases I:cC l 0 4=uD 0 (l.drop 4)
    ·skip
     refine aD.mI rfl rfl rfl rfl (ag rfl rfl aF) (by simp; exact_mod_cast I) ?_
     refine zA rfl ?_
     refine aD.nil ⟨⟨aa,aa,fun _ _=>.inr ⟨rfl,⟨_,bT rfl⟩,bP _ rfl⟩,fh (.inr ⟨rfl,⟨_,eD (p:=some (.int .i64 4)) (q:=none) (m:=none) (p':=some 4) (q':=none) (m':=none) rfl rfl rfl rfl rfl rfl rfl (jg (s0.aK (k:=1) rfl J) (a:=4) (by omega)).1⟩,Me⟩) (.inr ⟨rfl,⟨_,eD (p:=some (.int .i64 4)) (q:=none) (m:=none) (p':=some 4) (q':=none) (m':=none) rfl rfl rfl rfl rfl rfl rfl (jg (s1.aK (k:=1) rfl J) (a:=4) (by omega)).1⟩,Me⟩),aa,aa,aa,aa,aa⟩,?_⟩
     refine zj rfl (WP.skip (zg rfl (za rfl (zv ?_))))
     refine WP.ret ⟨aa,_,rfl,?_⟩
     exact ⟨by rw [fW,ai hn,ai (by rw [hg]; decide),ai (by simpa using I)],s.drop⟩
    ·skip
     refine aD.yj rfl rfl rfl rfl (ag rfl rfl aF) (by simp; exact_mod_cast I) ?_
     refine zA rfl ?_
     refine aD.nil ⟨⟨aa,aa,fun _ _=>.inr ⟨rfl,⟨_,bT rfl⟩,bP _ rfl⟩,fh (.inr ⟨rfl,⟨_,eD (p:=some (.int .i64 4)) (q:=none) (m:=none) (p':=some 4) (q':=none) (m':=none) rfl rfl rfl rfl rfl rfl rfl (jg (s0.aK (k:=1) rfl J) (a:=4) (by omega)).1⟩,Me⟩) (.inr ⟨rfl,⟨_,eD (p:=some (.int .i64 4)) (q:=none) (m:=none) (p':=some 4) (q':=none) (m':=none) rfl rfl rfl rfl rfl rfl rfl (jg (s1.aK (k:=1) rfl J) (a:=4) (by omega)).1⟩,Me⟩),aa,aa,aa,aa,aa⟩,?_⟩
     exact zK 5 rfl (WP.ret ⟨aa,_,rfl,by rw [fW,ai hn,ai (by rw [hg]; decide),aq I],s.drop⟩)
   ·skip
    refine zk 3 rfl ?_
    refine az.cx s rfl rfl rfl (cz h_) (fun p3 h s => ?_)
    refine zS rfl (s.ik (j:=0) rfl aW rfl rfl) (fun h s => ?_)
    exact zk 3 rfl (WP.block (zK 3 rfl (zt rfl (ag rfl rfl aF) (rfl) (zk 8 rfl (WP.ret ⟨aa,_,rfl,by rw [fW,ai hn,aq hg],s.drop⟩)))))
 ·intro hq
  have hq:l.length≠512:=by simp at hq; omega
  have hn:l≠List.replicate 512 0:=fun e=>hq (by rw [e,hz])
  have hg:bN l=false:=by rw [bN,cU hq,e_]
  refine zk 13 rfl (zc rfl (qg hT s J iN) ?_)
  rintro r h' ⟨s,(⟨ES,rfl⟩ | ⟨_,rfl⟩)⟩
  ·rw [hg] at ES; cases ES
  ·refine az.op rfl rfl rfl (bT rfl) ?_
   refine zk 2 rfl ?_
   refine az.cx s rfl rfl rfl (cz h_) (fun p3 h s => ?_)
   refine zS rfl (s.ik (j:=0) rfl aW rfl rfl) (fun h s => ?_)
   exact zk 3 rfl (WP.block (zK 3 rfl (zt rfl (ag rfl rfl aF) (rfl) (zk 8 rfl (WP.ret ⟨aa,_,rfl,by rw [fW,ai hn,aq hg],s.drop⟩)))))
theorem nW {i b id off:Nat}(hv:View h v l)(hb:l[i]?=some b)(he:indexAddrV Tryz.prog 28 v (.int .i64 (i:Int))=some (.ptr id off)): loadV Tryz.prog h 5 (.ptr id off)=some (.int .u8 (b:Int)):=by
 obtain ⟨I,off',J,e2⟩:=c7 hv hb
 rw [he] at J
 have e3:V.ptr id off=V.ptr I off':=bH J
 rw [e3]
 exact e2
theorem E0 (hT:W told)(s:Sat h (X::S))(I:cN X (cQ v l))(iN:l.length<9223372036854775808):
  Call ⟨Tryz.prog,told⟩ 142 [v] h fun r h'=>Sat h' (X::S)∧((bN l=true∧r=.aX [.int .i64 (l.getD 12 0:Nat),.int .u64 (cC l 4 8),.int .i64 (cC l 18 4),.int .i64 (cC l 22 4),.int .i64 0]) ∨
   (bN l=false∧r=.aX [.int .i64 0,.int .u64 0,.int .i64 0,.int .i64 0,.int .i64 4])):=by
 have hv:=s.aK (k:=0) rfl I
 refine Call.of_wp (hT.free _ rfl) Tryz.func142 rfl rfl (zK 11 rfl (zc rfl (qg hT s I iN) ?_))
 rintro r h' ⟨s,(⟨hg,rfl⟩ | ⟨hg,rfl⟩)⟩
 ·have hq:=gx hg
  obtain ⟨pi,po,pc,rfl⟩:=gw hv (by omega)
  have J:l[12]?=some (l[12]'(by omega)):=aN _
  generalize Eo:(l[12]'(by omega))=b at J
  have Ei:b<256:=hv.1 b (aU J)
  have tD:l.getD 12 0=b:=by rw [dF,J]; rfl
  rw [tD]
  refine zk 3 rfl ?_
  refine az.cx s rfl rfl rfl (cz h_) (fun p7 h s => ?_)
  refine zS rfl (s.ik (j:=0) rfl aW rfl rfl) (fun h s => ?_)
  refine zk 6 rfl (zh rfl (ag rfl rfl aF) (rfl) (zk 4 rfl ?_))
  have s0:=s
  obtain ⟨id,off,e1,e2⟩:=c7 (s.aK (k:=1) rfl I) J
  refine WP.drawn [some (0,4),some (0,4),some (0,4),some (0,4),ak,ak,ak,some (0,2),none,some (0,3),ak,ak,ak,ak,ak,ak] rfl (by kernel_rfl) (by kernel_rfl) ?_
  refine zM rfl (zO rfl (cI (r:=.ptr id off) rfl rfl e1) (zL rfl (nW (s.aK (k:=1) rfl I) J e1) (aD.op rfl rfl rfl (by simp only [isEff,bG]) (cM rfl (by exact jf Tryz.underlying5 bG (aA (by omega) (by omega)))) ?_)))
  refine zM rfl (zO rfl (eD (p:=some (.int .i64 4)) (q:=some (.int .i64 12)) (m:=none) (p':=some 4) (q':=some 12) (m':=none) rfl rfl rfl rfl rfl rfl rfl (ic (s.aK (k:=1) rfl I) (a:=4) (b:=12) (by omega) (by omega)).1) ?_)
  refine aD.any rfl rfl rfl rfl (OpR.call rfl rfl rfl rfl (As hT s (k:=1) rfl (sQ I (a:=4) (b:=12) (by omega) (by omega)) (by simp; omega))) ?_
  rintro r h' ⟨rfl,rfl⟩
  have s1:=s
  refine zL rfl (s.cG (k:=0) rfl bM aW) (aD.any rfl rfl rfl rfl (OpR.call rfl rfl rfl rfl (qf hT s (k:=1) rfl I (by decide) (by decide) (by decide) (by omega) (by omega))) ?_)
  rintro r h' ⟨rfl,s⟩
  have s2:=s
  refine zL rfl (s.cG (k:=0) rfl bM aW) (aD.any rfl rfl rfl rfl (OpR.call rfl rfl rfl rfl (qf hT s (k:=1) rfl I (by decide) (by decide) (by decide) (by omega) (by omega))) ?_)
  rintro r h' ⟨rfl,s⟩
  refine zA rfl (zA rfl (zA rfl (zA rfl (zA rfl ?_))))
  refine aD.nil ⟨⟨fun _ _=>.inr ⟨rfl,⟨_,bT rfl⟩,bP _ rfl⟩,fun _ _=>.inr ⟨rfl,⟨_,cI (r:=.ptr id off) rfl rfl e1⟩,bP _ rfl⟩,Pf (.inr ⟨rfl,⟨_,bp rfl (nW (s0.aK (k:=1) rfl I) J e1)⟩,bP _ rfl⟩) (.inr ⟨rfl,⟨_,bp rfl (nW (s1.aK (k:=1) rfl I) J e1)⟩,bP _ rfl⟩) (.inr ⟨rfl,⟨_,bp rfl (nW (s2.aK (k:=1) rfl I) J e1)⟩,bP _ rfl⟩) (.inr ⟨rfl,⟨_,bp rfl (nW (s.aK (k:=1) rfl I) J e1)⟩,bP _ rfl⟩),fun _ _=>.inr ⟨rfl,⟨_,cM rfl (by exact jf Tryz.underlying5 bG (aA (by omega) (by omega)))⟩,bP _ rfl⟩,aa,aa,aa,fh (.inr ⟨rfl,⟨_,bp rfl (s0.cG (k:=0) rfl bM aW)⟩,bP _ rfl⟩) (.inr ⟨rfl,⟨_,bp rfl (s1.cG (k:=0) rfl bM aW)⟩,bP _ rfl⟩),aa,Ca (.inr ⟨rfl,⟨_,bp rfl (s0.cG (k:=0) rfl bM aW)⟩,bP _ rfl⟩) (.inr ⟨rfl,⟨_,bp rfl (s1.cG (k:=0) rfl bM aW)⟩,bP _ rfl⟩) (.inr ⟨rfl,⟨_,bp rfl (s2.cG (k:=0) rfl bM aW)⟩,bP _ rfl⟩),aa,aa,aa,aa,aa,aa,aa⟩,?_⟩
  refine WP.ret ⟨aa,_,rfl,?_⟩
  exact ⟨s.drop,.inl ⟨hg,rfl⟩⟩
 ·skip
  refine zk 3 rfl ?_
  refine az.cx s rfl rfl rfl (cz h_) (fun p7 h s => ?_)
  refine zS rfl (s.ik (j:=0) rfl aW rfl rfl) (fun h s => ?_)
  exact zk 6 rfl (zt rfl (ag rfl rfl aF) (rfl) (zk 11 rfl (WP.ret ⟨aa,_,rfl,s.drop,.inr ⟨hg,rfl⟩⟩)))
end
structure Lg where
 base:Nat
 b:List Nat
 b9:List Nat
 forced:Nat
 check:Nat
def cD (l:List Nat): List V:=l.map fun (n:Nat)=>V.int .i64 (n:Int)
theorem dD (l:List Nat): (cD l).length=l.length:=by simp [cD]
def PB (p base:Nat)(bv I:V)(forced check:Nat): List V:=[.ptr p 0,.int .u64 (base:Int),bv,I,.int .i64 (forced:Int),.int .u64 (check:Int)]
def bU (q p:Nat)(μ:Lg): au:=xs fun bv:V=>xs fun I:V=>star [pt q (.cells 6 (PB p μ.base bv I μ.forced μ.check) false),bg bv μ.b,.arr 1 I (cD μ.b9)]
structure Lg.Ok (μ:Lg): Prop where
 size:μ.base+μ.b.length≤1099511627776
 many:μ.b9.length≤16777216
 low:∀s∈μ.b9,s<μ.b.length
 Av:μ.b9.Pairwise (· < ·)
 forced:μ.forced≤μ.b.length
 len:μ.b.length≤16777216
 check:μ.check≤1099511627776
theorem QY {P:Program}{h:H}{t:TypeId}{x y:Operand}{a b:Nat}(I:a+b<4611686018427387904): binV P h .quo t x y (.int .i64 ((a:Int)+(b:Int))) (.int .i64 2)=some (.int .i64 (((a+b)/2:Nat):Int)):=by
 simp only [binV,ikBeq,af,intV]
 rw [show intBeq 2 0=false from rfl,ay,Ec (by omega),aA (by omega) (by omega)]
 congr 2
section
variable {told:cX} {h:H} {S:List au} {X:au} {k q p:Nat} {v:V} {l:List Nat} {μ:Lg}
theorem fF : Sat h (bU q p μ::S)↔∃bv I,Sat h (pt q (.cells 6 (PB p μ.base bv I μ.forced μ.check) false)::bg bv μ.b::.arr 1 I (cD μ.b9)::S):=by
 simp only [bU,g8,cP,gL,dh]
theorem jZ {P:Program}{t e:TypeId}{cs:List V}{i:Nat}{c:V}(s:Sat h S)(hk:getA S k=some (.arr 1 v cs))(hi:cs[i]?=some c)(hu:P.underlying t=some (.slice e))(I:bh P e=some 1):
  ∃id off,indexAddrV P t v (.int .i64 (i:Int))=some (.ptr id off)∧∀t',bS P t'=some false→loadV P h t' (.ptr id off)=some c:=by
 have J:i<cs.length:=(List.getElem?_eq_some_iff.1 hi).1
 obtain ⟨m,r,h1,h2,h3⟩:=s.at hk
 rcases h3.2 with ⟨_,rfl⟩ | ⟨id,n,cap,N,rest,rfl,hg,e1,e2,_⟩
 ·simp at hi
 ·refine ⟨id,i,?_,fun t' ht=>LW ht (h1 _ _ hg) ?_⟩
  ·simp only [indexAddrV,hu,I,cg]
   rw [show (decide ((0:Int)≤(i:Int))&&decide ((i:Int)<(n:Int)))=true by simp; omega,af]
   simp
  ·rw [eE,iu J,hi]
theorem IA (I:W told)(s:Sat h (bU q p μ::S)): Call ⟨Tryz.prog,told⟩ 82 [.ptr q 0] h fun v h'=>v=.int .u64 (μ.base:Int)∧h'=h:=by
 obtain ⟨bv,J,s⟩:=fF.1 s
 exact Call.of_wp (I.free _ rfl) Tryz.func82 rfl rfl (zK 8 rfl (zf rfl (rV _ _) (zl rfl (s.ld (k:=0) rfl mK rfl) (zk 2 rfl (WP.ret ⟨aa,_,rfl,rfl,rfl⟩)))))
theorem DS (I:W told)(s:Sat h (bU q p μ::S)): Call ⟨Tryz.prog,told⟩ 83 [.ptr q 0] h fun v h'=>v=.int .u64 (μ.check:Int)∧h'=h:=by
 obtain ⟨bv,J,s⟩:=fF.1 s
 exact Call.of_wp (I.free _ rfl) Tryz.func83 rfl rfl (zK 8 rfl (zf rfl (MU _ _) (zl rfl (s.ld (k:=0) rfl mK rfl) (zk 2 rfl (WP.ret ⟨aa,_,rfl,rfl,rfl⟩)))))
theorem Aw (I:W told)(s:Sat h (bU q p μ::S))(J:μ.base+μ.b.length≤1099511627776): Call ⟨Tryz.prog,told⟩ 43 [.ptr q 0] h fun v h'=>v=.int .u64 ((μ.base:Int)+(μ.b.length:Int))∧h'=h:=by
 obtain ⟨bv,sv,s⟩:=fF.1 s
 refine Call.of_wp (I.free _ rfl) Tryz.func43 rfl rfl (zK 5 rfl (WP.drawn [ak,ak,ak,ak,ak,ak,ak,ak,ak,ak,ak,ak] rfl (by kernel_rfl) (by kernel_rfl) ?_))
 refine zM rfl (zN rfl (zF rfl (rV _ _) (zL rfl (s.ld (k:=0) rfl mK rfl) (zM rfl (zN rfl (zF rfl (jE _ _) (zL rfl (s.ld (k:=0) rfl cy rfl) (zO rfl (aQ rfl rfl rfl (bw aM (s.aK (k:=1) rfl (bz _ _)))) (aD.op rfl rfl rfl (by simp only [isEff,cS]) (cM rfl (by exact jf bG cS (fT (by omega) (by omega)))) ?_)))))))))
 refine zO rfl (ag rfl rfl (by exact aV (fT (by omega) (by omega)))) ?_
 refine zA rfl ?_
 refine aD.nil ⟨⟨aa,aa,aa,aa,aa,aa,aa,aa,aa,aa,aa,aa,aa⟩,?_⟩
 refine WP.ret ⟨aa,_,rfl,?_⟩
 exact ⟨rfl,rfl⟩
theorem Gs (I:W told)(s:Sat h (bU q p μ::S))(J:μ.base+μ.b.length≤1099511627776)(hf:μ.forced≤μ.b.length): Call ⟨Tryz.prog,told⟩ 129 [.ptr q 0] h fun v h'=>v=.int .u64 ((μ.base:Int)+(μ.forced:Int))∧h'=h:=by
 obtain ⟨bv,sv,s⟩:=fF.1 s
 refine Call.of_wp (I.free _ rfl) Tryz.func129 rfl rfl (zK 5 rfl (WP.drawn [ak,ak,ak,ak,ak,ak,ak,ak,ak,ak,ak] rfl (by kernel_rfl) (by kernel_rfl) ?_))
 refine zM rfl (zN rfl (zF rfl (rV _ _) (zL rfl (s.ld (k:=0) rfl mK rfl) (zM rfl (zN rfl (zF rfl (Ah _ _) (zL rfl (s.ld (k:=0) rfl eG rfl) (aD.op rfl rfl rfl (by simp only [isEff,cS]) (cM rfl (by exact jf bG cS (fT (by omega) (by omega)))) ?_))))))))
 refine zO rfl (ag rfl rfl (by exact aV (fT (by omega) (by omega)))) ?_
 refine zA rfl ?_
 refine aD.nil ⟨⟨aa,aa,aa,aa,aa,aa,aa,aa,aa,aa,aa,aa⟩,?_⟩
 refine WP.ret ⟨aa,_,rfl,?_⟩
 exact ⟨rfl,rfl⟩
def Split (μ:Lg)(n i:Nat): Prop:=i≤μ.b9.length∧(∀(j s:Nat),j<i→μ.b9[j]?=some s→μ.base+s<n)∧(∀(j s:Nat),i≤j→μ.b9[j]?=some s→n≤μ.base+s)
theorem Ax {l:List Nat}(J:l.Pairwise (· < ·)){i j a b:Nat}(I:i<j)(ha:l[i]?=some a)(hb:l[j]?=some b): a<b:=by
 obtain ⟨h1,rfl⟩:=List.getElem?_eq_some_iff.1 ha
 obtain ⟨h2,rfl⟩:=List.getElem?_eq_some_iff.1 hb
 exact List.pairwise_iff_getElem.1 J _ _ h1 h2 I
noncomputable def UB : Code:=fC [1,1,0,0,0] ((Tryz.f150.body).getD .skip)
theorem IB {bv sv:V}{n:Nat}(hn:n<18446744073709551616)(I:μ.Ok)(s:Sat h (pt q (.cells 6 (PB p μ.base bv sv μ.forced μ.check) false)::bg bv μ.b::.arr 1 sv (cD μ.b9)::S)): ∀(fuel lo hi:Nat) (E:List (Nat×V)) (Q:Ex→List (Nat×V)→H→Prop),hi-lo≤fuel→lo≤hi→hi≤μ.b9.length →
  (∀(j s:Nat),j<lo→μ.b9[j]?=some s→μ.base+s<n)→(∀(j s:Nat),hi≤j→μ.b9[j]?=some s→n≤μ.base+s) →
  Has E [(0,.ptr q 0),(1,.int .u64 (n:Int)),(5,.int .i64 (lo:Int)),(6,.int .i64 (hi:Int))]→(∀E' i,Split μ n i→look E' 5=some (.int .i64 (i:Int))→Q (.exit 0) E' h)→WP ⟨Tryz.prog,told⟩ 39 (.loop UB) E h Q:=by
 have Mf:=I.many
 have Gt:=I.size
 intro fuel
 induction fuel with
 | zero =>
  intro lo hi E Q hf h1 h2 h3 h4 hE hq
  refine WP.loop (WP.has hE (zK 5 rfl (zh rfl (ag rfl rfl aO) (by simp; omega) ?_)))
  refine zk 2 rfl (WP.exit ?_)
  have e:lo=hi:=by omega
  exact hq _ lo ⟨by omega,h3,by rw [e]; exact h4⟩ rfl
 | succ fuel ih =>
  intro lo hi E Q hf h1 h2 h3 h4 hE hq
  by_cases br:lo<hi
  ·skip
   refine WP.loop (WP.has hE (zK 5 rfl (zt rfl (ag rfl rfl aO) (by simp; omega) ?_)))
   refine zk 3 rfl (WP.block (zK 4 rfl (zb rfl (by exact aV (aA (by omega) (by omega))) ?_)))
   refine zb rfl (QY (by omega)) ?_
   refine zk 3 rfl ?_
   generalize hm:(lo+hi)/2=m
   have A0:lo≤m:=by omega
   have LG:m<hi:=by omega
   obtain ⟨st,J⟩:∃st,μ.b9[m]?=some st:=⟨_,aN (by omega)⟩
   have Kt:=I.low st (aU J)
   have hlen:=I.len
   have hc:(cD μ.b9)[m]?=some (.int .i64 (st:Int)):=by simp [cD,J]
   obtain ⟨id,off,e1,e2⟩:=jZ (P:=Tryz.prog) s (k:=2) rfl hc cB lD
   refine WP.drawn [ak,ak,ak,ak,ak,ak,ak,ak,ak,ak,ak,ak,ak,ak,ak] rfl (by kernel_rfl) (by kernel_rfl) ?_
   refine zM rfl (zN rfl (zF rfl (rV _ _) (zL rfl (s.ld (k:=0) rfl mK rfl) (zM rfl (zN rfl (zF rfl (nt _ _) (zL rfl (s.ld (k:=0) rfl wN rfl) (zM rfl (zO rfl (cI (r:=.ptr id off) rfl rfl e1) (zL rfl (e2 _ eG) (aD.op rfl rfl rfl (by simp only [isEff,cS]) (cM rfl (by exact jf bG cS (fT (by omega) (by omega)))) ?_)))))))))))
   refine zO rfl (ag rfl rfl (by exact aV (fT (by omega) (by omega)))) ?_
   refine zM rfl ?_
   by_cases tv:μ.base+st<n
   ·skip
    refine aD.yj rfl rfl rfl rfl (ag rfl rfl aO) (by simp; omega) ?_
    refine aD.nil ⟨⟨aa,aa,aa,aa,aa,aa,aa,aa,aa,aa,aa,aa,aa,aa,aa,aa⟩,?_⟩
    refine zK 3 rfl (zb rfl (by exact aV (aA (by omega) (by omega))) ?_)
    refine za rfl (zv ?_)
    refine ih (m+1) hi _ Q (by omega) (by omega) h2 (fun j s hj hs => ?_) h4 ⟨rfl,rfl,rfl,rfl,aa⟩ hq
    by_cases PC:j=m
    ·subst PC; rw [J] at hs; injection hs with hs; omega
    ·have:=Ax I.Av (show j<m by omega) hs J; omega
   ·skip
    refine aD.mI rfl rfl rfl rfl (ag rfl rfl aO) (by simp; omega) ?_
    refine aD.nil ⟨⟨aa,aa,aa,aa,aa,aa,aa,aa,aa,aa,aa,aa,aa,aa,aa,aa⟩,?_⟩
    refine zj rfl (zr rfl (zk 2 rfl (zv ?_)))
    refine ih lo m _ Q (by omega) A0 (by omega) h3 (fun j s hj hs => ?_) ⟨rfl,rfl,rfl,rfl,aa⟩ hq
    by_cases PC:j=m
    ·subst PC; rw [J] at hs; injection hs with hs; omega
    ·have:=Ax I.Av (show m<j by omega) J hs; omega
  ·skip
   refine WP.loop (WP.has hE (zK 5 rfl (zh rfl (ag rfl rfl aO) (by simp; omega) ?_)))
   refine zk 2 rfl (WP.exit ?_)
   have e:lo=hi:=by omega
   exact hq _ lo ⟨by omega,h3,by rw [e]; exact h4⟩ rfl
theorem Nd (hT:W told){n:Nat}(s:Sat h (bU q p μ::S))(I:μ.Ok)(hn:n<18446744073709551616): Call ⟨Tryz.prog,told⟩ 150 [.ptr q 0,.int .u64 (n:Int)] h fun v h'=>h'=h∧∃i,Split μ n i∧v=.int .i64 (i:Int):=by
 obtain ⟨bv,sv,s⟩:=fF.1 s
 refine Call.of_wp (hT.free _ rfl) Tryz.func150 rfl rfl (zK 5 rfl (WP.drawn [ak,ak,ak,ak,ak,ak,ak] rfl (by kernel_rfl) (by kernel_rfl) ?_))
 refine zM rfl (zN rfl (zF rfl (nt _ _) (zL rfl (s.ld (k:=0) rfl wN rfl) (zO rfl (aQ rfl rfl rfl (s.gI (n:=μ.b9.length) (j:=2) rfl (by rw [dD,cq]) (by decide) cB)) ?_))))
 refine zA rfl (zA rfl ?_)
 refine aD.nil ⟨⟨aa,aa,aa,aa,aa,aa,aa,aa⟩,?_⟩
 refine zw (WP.block ?_)
 refine IB hn I s μ.b9.length 0 μ.b9.length _ _ (by omega) (by omega) (by omega) (fun j s hj _=>by omega) (fun j s hj hs => ?_) ⟨rfl,rfl,rfl,rfl,aa⟩ (fun E' i hi J => ?_)
 ·rw [qZ (by omega)] at hs; cases hs
 ·skip
  exact WP.has (F:=[(5,.int .i64 (i:Int))]) ⟨J,aa⟩ (zK 5 rfl (WP.ret ⟨aa,_,rfl,rfl,i,hi,rfl⟩))
def Lg.hasB (μ:Lg)(n:Nat): Bool:=μ.b9.any fun s=>decide (μ.base+s=n)
theorem Split.has {n i:Nat}(hs:Split μ n i)(hr:μ.b9.Pairwise (· < ·)): μ.hasB n=true↔∃s,μ.b9[i]?=some s∧μ.base+s=n:=by
 rw [Lg.hasB,List.any_eq_true]
 constructor
 ·rintro ⟨s,h1,I⟩
  have I:μ.base+s=n:=by simpa using I
  obtain ⟨j,J⟩:=vc h1
  have v7:i≤j:=by
   rcases iR j i with h | h
   ·have:=hs.2.1 j s h J; omega
   ·exact h
  by_cases he:i=j
  ·subst he; exact ⟨s,J,I⟩
  ·have RG:=(List.getElem?_eq_some_iff.1 J).1
   have hi:μ.b9[i]?=some (μ.b9[i]'(by omega)):=aN _
   have h3:=hs.2.2 i _ (aE _) hi
   have h4:=Ax hr (show i<j by omega) hi J
   omega
 ·rintro ⟨s,h1,I⟩
  exact ⟨s,aU h1,by simpa using I⟩
theorem IC {i st:Nat}(I:μ.b9[i]?=some st): (cD μ.b9)[i]?=some (.int .i64 (st:Int)):=by simp [cD,I]
theorem Nf (hT:W told){n:Nat}(s:Sat h (bU q p μ::S))(I:μ.Ok)(hn:n<18446744073709551616): Call ⟨Tryz.prog,told⟩ 136 [.ptr q 0,.int .u64 (n:Int)] h fun v h'=>h'=h∧v=.bool (μ.hasB n):=by
 have s0:=s
 obtain ⟨bv,sv,s⟩:=fF.1 s
 have Mf:=I.many
 have Gt:=I.size
 refine Call.of_wp (hT.free _ rfl) Tryz.func136 rfl rfl (zK 8 rfl (zc rfl (Nd hT s0 I hn) ?_))
 rintro v h' ⟨rfl,i,hi,rfl⟩
 have hh:=hi.has I.Av
 refine zk 3 rfl (WP.drawn [ak,ak,ak,ak,ak,ak,ak,ak,ak,ak,ak,ak,ak,ak,ak,ak,ak,ak,ak,ak,ak,ak,ak,ak,ak] rfl (by kernel_rfl) (by kernel_rfl) ?_)
 refine zM rfl (zM rfl (zN rfl (zF rfl (nt _ _) (zL rfl (s.ld (k:=0) rfl wN rfl) (zO rfl (aQ rfl rfl rfl (s.gI (n:=μ.b9.length) (j:=2) rfl (by rw [dD,cq]) (by decide) cB)) ?_)))))
 by_cases L9:i<μ.b9.length
 ·skip
  refine aD.yj rfl rfl rfl rfl (ag rfl rfl aO) (by simp; omega) ?_
  obtain ⟨st,J⟩:∃st,μ.b9[i]?=some st:=⟨_,aN L9⟩
  have Kt:=I.low st (aU J)
  obtain ⟨id,off,e1,e2⟩:=jZ (P:=Tryz.prog) s (k:=2) rfl (IC J) cB lD
  refine zM rfl (zM rfl (zN rfl (zF rfl (rV _ _) (zL rfl (s.ld (k:=0) rfl mK rfl) (zM rfl (zN rfl (zF rfl (nt _ _) (zL rfl (s.ld (k:=0) rfl wN rfl) (zM rfl (zO rfl (cI (r:=.ptr id off) rfl rfl e1) (zL rfl (e2 _ eG) (aD.op rfl rfl rfl (by simp only [isEff,cS]) (cM rfl (by exact jf bG cS (fT (by omega) (by omega)))) ?_))))))))))))
  refine zO rfl (ag rfl rfl (by exact aV (fT (by omega) (by omega)))) ?_
  refine zM rfl ?_
  by_cases he:μ.base+st=n
  ·skip
   refine aD.yj rfl rfl rfl rfl (ag rfl rfl iJ) (by simp; omega) ?_
   refine zO rfl (nm rfl rfl) (zA rfl ?_)
   refine aD.nil ⟨⟨aa,aa,aa,aa,aa,aa,aa,aa,aa,aa,aa,aa,aa,aa,aa,aa,aa,aa,aa,aa,aa,aa,aa,aa,aa,aa⟩,?_⟩
   refine WP.ret ⟨aa,_,rfl,?_⟩
   exact ⟨rfl,by rw [hh.2 ⟨st,J,he⟩]⟩
  ·skip
   refine aD.mI rfl rfl rfl rfl (ag rfl rfl iJ) (by simp; omega) ?_
   refine zO rfl (nm rfl rfl) (zA rfl ?_)
   refine aD.nil ⟨⟨aa,aa,aa,aa,aa,aa,aa,aa,aa,aa,aa,aa,aa,aa,aa,aa,aa,aa,aa,aa,aa,aa,aa,aa,aa,aa⟩,?_⟩
   refine WP.ret ⟨aa,_,rfl,?_⟩
   refine ⟨rfl,?_⟩
   cases hb:μ.hasB n with
   | false=>rfl
   | true =>
    obtain ⟨s',h1,h2⟩:=hh.1 hb
    rw [J] at h1; have:=bH h1; omega
 ·skip
  refine aD.mI rfl rfl rfl rfl (ag rfl rfl aO) (by simp; omega) ?_
  refine zM rfl (aD.no (e:=false) rfl rfl rfl rfl (aD.no (e:=false) rfl rfl rfl rfl (aD.no (e:=false) rfl rfl rfl rfl (aD.no (e:=false) rfl rfl rfl rfl (aD.no (e:=false) rfl rfl rfl rfl (aD.no (e:=false) rfl rfl rfl rfl (aD.no (e:=false) rfl rfl rfl rfl (aD.no (e:=false) rfl rfl rfl rfl (aD.no (e:=false) rfl rfl rfl rfl (aD.no (e:=false) rfl rfl rfl rfl (aD.no (e:=false) rfl rfl rfl rfl (aD.no (e:=false) rfl rfl rfl (by simp only [isEff,cS]) ?_))))))))))))
  refine aD.no (e:=false) rfl rfl rfl rfl (aD.no (e:=false) rfl rfl rfl rfl (aD.no (e:=false) rfl rfl rfl rfl (zO rfl (iB rfl rfl) (zA rfl ?_))))
  refine aD.nil ⟨⟨aa,aa,aa,aa,aa,aa,aa,aa,aa,aa,aa,aa,aa,aa,aa,aa,aa,aa,aa,aa,aa,aa,aa,aa,aa,aa⟩,?_⟩
  refine WP.ret ⟨aa,_,rfl,?_⟩
  refine ⟨rfl,?_⟩
  cases hb:μ.hasB n with
  | false=>rfl
  | true =>
   obtain ⟨s',h1,h2⟩:=hh.1 hb
   have:=(List.getElem?_eq_some_iff.1 h1).1
   omega
theorem ID (hT:W told){n:Nat}{δ:Dk}(s:Sat h (bU q p μ::bj p δ::S))(I:μ.Ok)(hf:δ.bJ<4294967296): Call ⟨Tryz.prog,told⟩ 79 [.ptr q 0,.int .u64 (n:Int)] h fun v h' =>
  (n<μ.base+μ.forced∧v=.int .i64 0∧Sat h' (bU q p μ::bj p δ::S)) ∨
  (μ.base+μ.forced≤n∧δ.dead=true∧v=.int .i64 9∧Sat h' (bU q p μ::bj p δ::S)) ∨
  (μ.base+μ.forced≤n∧δ.dead=false∧δ.bJ=0∧v=.int .i64 9∧Sat h' (bU q p μ::bj p δ.die::S)) ∨
  (μ.base+μ.forced≤n∧δ.dead=false∧δ.bJ≠0∧v=.int .i64 0∧Sat h' (bU q p { μ with forced:=μ.b.length }::bj p { δ.gi with dS:=δ.log.length }::S)):=by
 have Gt:=I.size
 have Wt:=I.forced
 have s0:=s
 obtain ⟨bv,sv,s⟩:=fF.1 s
 refine Call.of_wp (hT.free _ rfl) Tryz.func79 rfl rfl (zK 9 rfl (zc rfl (Gs hT s0 I.size I.forced) ?_))
 rintro v h' ⟨rfl,rfl⟩
 by_cases br:n<μ.base+μ.forced
 ·skip
  refine zt rfl (ag rfl rfl aO) (by simp; omega) ?_
  exact zk 6 rfl (WP.ret ⟨aa,_,rfl,.inl ⟨br,rfl,s0⟩⟩)
 ·have hle:μ.base+μ.forced≤n:=by omega
  refine zh rfl (ag rfl rfl aO) (by simp; omega) ?_
  refine zk 8 rfl (zf rfl (EN _ _) (zl rfl (s.ld (k:=0) rfl qS rfl) (zc rfl (It hT (s0.ae [1]) hf) ?_)))
  rintro v h (⟨J,rfl,s⟩ | ⟨J,h0,rfl,s⟩ | ⟨J,h0,rfl,s⟩)
  ·refine az.op rfl rfl rfl (eW rfl) ?_
   exact zk 4 rfl (zt rfl (ag rfl rfl aF) (rfl) (zk 7 rfl (WP.ret ⟨aa,_,rfl,.inr (.inl ⟨hle,J,rfl,s.ae [1]⟩)⟩)))
  ·skip
   exact zk 5 rfl (zt rfl (ag rfl rfl aF) (rfl) (zk 7 rfl (WP.ret ⟨aa,_,rfl,.inr (.inr (.inl ⟨hle,J,h0,rfl,s.ae [1]⟩))⟩)))
  ·skip
   obtain ⟨bv,sv,s⟩:=fF.1 (s.ae [1])
   refine zk 5 rfl (zh rfl (ag rfl rfl aF) (rfl) (zk 8 rfl (zf rfl (jE _ _) (zl rfl (s.ld (k:=0) rfl cy rfl) (zo rfl (aQ rfl rfl rfl (bw aM (s.aK (k:=1) rfl (bz _ _)))) (zn rfl (zf rfl (Ah _ _) ?_)))))))
   refine zS rfl (by exact s.je (k:=0) rfl lD rfl (by decide) rfl rfl) (fun h s => ?_)
   exact zk 5 rfl (WP.ret ⟨aa,_,rfl,.inr (.inr (.inr ⟨hle,J,h0,rfl,fF.2 ⟨bv,sv,s⟩⟩))⟩)
end
end Go.Proofs.YtefepnnfphdkpaaGreat.Am
