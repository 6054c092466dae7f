/- ChainFull: a part of its proof; conditions: its statement's. -/
import Derived.Test.YtefepnnfphdkpaaGreatD19
set_option linter.defProp false
namespace Go.Proofs.YtefepnnfphdkpaaGreat.Am
open Go
def D7:=@Tryz.underlying239
section
variable {told:cz} {h:H} {S:List aq} {X:aq} {k:Nat} {v:V} {l:List Nat}
theorem D8 (I:W told){n z:Nat}(s:Sat h (aU v l::S))(J:z≤8)(hl:l.length+z≤140737488355328):
  Call ⟨Tryz.prog,told⟩ 95 [v,.int .i64 (z:Int),.int .u64 (n:Int)] h fun r h'=>Sat h' (aU r (l++le z n)::S) :=
 (Km I.Oq s.wf (s.buf (k:=0) rfl) J hl).mono fun _ _ ⟨h1,h2,h3⟩=>s.xm h2 h1 h3
theorem nK (hT:W told){a z n:Nat}(s:Sat h (aU v l::S))(hz:1≤z)(Ov:z≤8)(J:a+z≤l.length)(js:l.length≤65536):
  Call ⟨Tryz.prog,told⟩ 99 [.agg [v],.int .i64 (a:Int),.int .i64 (z:Int),.int .u64 (n:Int)] h fun r h'=>r=.aX []∧Sat h' (aU v (a_ l a (le z n))::S):=by
 obtain ⟨kD,_,cap,_,rfl,_⟩:=s.eH (by omega)
 refine Call.of_wp (hT.free _ rfl) Tryz.func99 rfl rfl (zg rfl ?_)
 refine az.cJ s rfl rfl rfl (fR rfl rfl) (fun p4 h s => ?_)
 refine zv ?_
 have s0:=s
 refine WP.drawn [some (0,2),some (0,2),some (0,2),some (0,2),some (0,2),some (0,2),some (0,2),ak,ak,ak,ak] rfl (by kernel_rfl) (by kernel_rfl) ?_
 refine zF rfl (fL _ _) (zL rfl (s.ld (k:=0) rfl bK rfl) (zM rfl (zM rfl (zM rfl (zO rfl (ag rfl rfl (by exact bp (aA (by omega) (by omega)))) ?_)))))
 have ez:((a:Int)+(z:Int)).toNat=a+z:=by omega
 have ea:((a:Int)).toNat=a:=by omega
 refine zO rfl (eF (p:=some (.int .i64 (a:Int))) (q:=some (.int .i64 ((a:Int)+(z:Int)))) (m:=none) (p':=some a) (q':=some (a+z)) (m':=none) rfl rfl rfl rfl (by rw [fB (by omega),ea]) (by rw [fB (by omega),ez]) rfl (iS (s.buf (k:=1) rfl).view (by omega) J).1) ?_
 refine zM rfl (zM rfl (aB.any rfl rfl rfl rfl (OpR.call rfl rfl rfl rfl (D8 hT s.DR Ov (by simp; omega))) ?_))
 intro u h s
 have s:=s.ae [1,1,0]
 dsimp only [List.nil_append,V.cells,List.length_cons,List.length_nil,Nat.reduceAdd,bringA,getA,aZ] at s
 have s1:=s
 refine aB.any rfl rfl rfl rfl (OpR.TQ rfl (s.ae [1,1]) (bj _ _) rfl rfl rfl rfl (by omega) J (by simp [dK]; omega)) ?_
 intro r h s
 have hs:∃q c,slR (V.sl kD 0 l.length cap) a (a+z)=.sl kD q (a+z-a) c:=by
  cases cap with
  | exact c=>exact ⟨_,_,rfl⟩
  | rest e alt=>exact ⟨_,_,rfl⟩
 obtain ⟨q,c,hs⟩:=hs
 have I:(slR (V.sl kD 0 l.length cap) a (a+z)).beq (slR (V.sl kD 0 l.length cap) a (a+z))=true:=by rw [hs]; exact xk _ _ _ _
 refine aB.nil ⟨⟨fun _ _=>.inr ⟨rfl,⟨_,nC rfl (fL _ _)⟩,bP _ rfl⟩,eZ (.inr ⟨rfl,⟨_,aS rfl (s0.ld (k:=0) rfl bK rfl)⟩,bP _ rfl⟩) (.inr ⟨rfl,⟨_,aS rfl (s1.ld (k:=0) rfl bK rfl)⟩,bP _ rfl⟩),fun _ _=>.inr ⟨rfl,⟨_,b8 rfl⟩,bP _ rfl⟩,fun _ _=>.inr ⟨rfl,⟨_,b8 rfl⟩,bP _ rfl⟩,fun _ _=>.inr ⟨rfl,⟨_,b8 rfl⟩,bP _ rfl⟩,fun _ _=>.inr ⟨rfl,⟨_,ag rfl rfl (by exact bp (aA (by omega) (by omega)))⟩,bP _ rfl⟩,eZ (.inr ⟨rfl,⟨_,eF (p:=some (.int .i64 (a:Int))) (q:=some (.int .i64 ((a:Int)+(z:Int)))) (m:=none) (p':=some a) (q':=some (a+z)) (m':=none) rfl rfl rfl rfl (by rw [fB (by omega),ea]) (by rw [fB (by omega),ez]) rfl (iS (s0.buf (k:=1) rfl).view (by omega) J).1⟩,I⟩) (.inr ⟨rfl,⟨_,eF (p:=some (.int .i64 (a:Int))) (q:=some (.int .i64 ((a:Int)+(z:Int)))) (m:=none) (p':=some a) (q':=some (a+z)) (m':=none) rfl rfl rfl rfl (by rw [fB (by omega),ea]) (by rw [fB (by omega),ez]) rfl (iS (s1.buf (k:=1) rfl).view (by omega) J).1⟩,I⟩),aa,aa,aa,aa,aa⟩,?_⟩
 refine ⟨aa,_,rfl,rfl,?_⟩
 rw [show a+z-a=z by omega,dG (by rw [dK]; omega)] at s
 exact (s.del 1).del 1
theorem rC (hT:W told)(s:Sat h (X::S))(hX:cT X (cY v l))(J:l.length<9223372036854775808):
  Call ⟨Tryz.prog,told⟩ 153 [v] h fun r h'=>Sat h' (X::S)∧((bV l=true∧r=.aX [.agg [v],.int .i64 0])∨(bV l=false∧r=.aX [.agg [.bn],.int .i64 4])):=by
 have hv:=s.aG (k:=0) rfl hX
 refine Call.of_wp (hT.free _ rfl) Tryz.func153 rfl rfl (zg rfl ?_)
 refine az.cJ s rfl rfl rfl (cE iR) (fun p2 h s => ?_)
 refine zk 6 rfl (zc rfl (GP hT (s.ae [1]) hX J) ?_)
 rintro r h' ⟨rfl,s⟩
 cases hg:bV l with
 | true =>
  have I:1≤l.length:=by
   have:l.length=512:=by simp only [bV,aH,dz] at hg; exact hg.1
   omega
  obtain ⟨pi,po,pc,rfl⟩:=gZ hv I
  refine zo rfl (eY rfl rfl) (zk 6 rfl (zo rfl (cM rfl (by rw [xw]; rfl)) ?_))
  refine zS rfl (s.iw (j:=1) rfl br rfl rfl) (fun h s => ?_)
  refine zk 2 rfl ?_
  refine WP.ret ⟨aa,_,C3 rfl (s.c5 (k:=1) rfl bU br) rfl,?_⟩
  exact ⟨s.del 1,.inl ⟨rfl,rfl⟩⟩
 | false =>
  refine zo rfl (eY rfl rfl) (zk 4 rfl (zo rfl (cM rfl (by rw [xw]; rfl)) ?_))
  refine zS rfl (s.iw (j:=1) rfl br rfl rfl) (fun h s => ?_)
  refine zk 2 rfl ?_
  refine WP.ret ⟨aa,_,C3 rfl (s.c5 (k:=1) rfl bU br) rfl,?_⟩
  exact ⟨s.del 1,.inr ⟨rfl,rfl⟩⟩
theorem g9 (I:bV l=true): l.length=512:=by simp only [bV,aH,dz] at I; exact I.1
theorem r6 (hT:W told)(s:Sat h (X::S))(J:cT X (cY v l))(js:l.length<9223372036854775808):
  Call ⟨Tryz.prog,told⟩ 100 [v] h fun r h'=>(bV l=true∧∃u,r=.aX [.agg [u],.int .i64 0]∧Sat h' (aU u l::X::S))∨(bV l=false∧r=.aX [.agg [.bn],.int .i64 4]∧Sat h' (X::S)):=by
 have hv:=s.aG (k:=0) rfl J
 refine Call.of_wp (hT.free _ rfl) Tryz.func100 rfl rfl (zg rfl ?_)
 refine az.cJ s rfl rfl rfl (cE iR) (fun p2 h s => ?_)
 refine zk 5 rfl (zc rfl (rC hT (s.ae [1]) J js) ?_)
 rintro r h' ⟨s,(⟨I,rfl⟩ | ⟨I,rfl⟩)⟩
 ·have V_:=g9 I
  obtain ⟨pi,po,pc,rfl⟩:=gZ hv (by omega)
  refine zk 3 rfl ?_
  refine az.cJ s rfl rfl rfl (cE iR) (fun p4 h s => ?_)
  refine zS rfl (s.iw (j:=0) rfl br rfl rfl) (fun h s => ?_)
  refine zk 6 rfl (zh rfl (ag rfl rfl aI) (rfl) (zk 4 rfl ?_))
  have s0:=s
  refine WP.drawn [ak,ak,ak,ak,some (0,2),some (0,2),ak,ak,ak,ak] rfl (by kernel_rfl) (by kernel_rfl) ?_
  refine zF rfl (fL _ _) (zL rfl (s.ld (k:=0) rfl bK rfl) (zO rfl (aO rfl rfl rfl (oD rfl aJ)) (aB.any rfl rfl rfl rfl (OpR.rq rfl s rfl rfl rfl rfl (by omega)) ?_)))
  intro u h s
  have s:=s.ae [1,1,1,0]
  have s1:=s
  refine zF rfl (fL _ _) (zL rfl (s.ld (k:=0) rfl bK rfl) (aB.any rfl rfl rfl rfl (OpR.pI rfl (s.ae [3,1]) J rfl rfl rfl rfl (by simp; omega)) ?_))
  intro u2 h s
  rw [c_] at s
  obtain ⟨kD,_,cap,_,rfl,_⟩:=s.eH (by omega)
  have s2:=s
  refine zO rfl (cM rfl (by rw [xw]; rfl)) ?_
  refine aB.ki rfl rfl rfl (OpR.tF rfl rfl rfl (s.iw (j:=3) rfl br rfl rfl)) ?_
  rintro w h ⟨rfl,s⟩
  have s3:=s
  refine zA rfl ?_
  refine aB.nil ⟨⟨aa,aa,aa,aa,fun _ _=>.inr ⟨rfl,⟨_,nC rfl (fL _ _)⟩,bP _ rfl⟩,eZ (.inr ⟨rfl,⟨_,aS rfl (s0.ld (k:=0) rfl bK rfl)⟩,bP _ rfl⟩) (.inr ⟨rfl,⟨_,aS rfl (s1.ld (k:=0) rfl bK rfl)⟩,bP _ rfl⟩),aa,aa,aa,aa,aa⟩,?_⟩
  refine WP.ret ⟨aa,_,C3 rfl (s.c5 (k:=3) rfl bU br) rfl,?_⟩
  exact .inl ⟨I,_,rfl,(s.del 2).del 2⟩
 ·skip
  refine zk 3 rfl ?_
  refine az.cJ s rfl rfl rfl (cE iR) (fun p4 h s => ?_)
  refine zS rfl (s.iw (j:=0) rfl br rfl rfl) (fun h s => ?_)
  refine zk 6 rfl (zt rfl (ag rfl rfl aI) (rfl) (zk 4 rfl (zo rfl (cM rfl (by rw [xw]; rfl)) ?_)))
  refine zm rfl ?_
  refine zS rfl (s.iw (j:=2) rfl br rfl rfl) (fun h s => ?_)
  refine zk 2 rfl ?_
  refine WP.ret ⟨aa,_,C3 rfl (s.c5 (k:=2) rfl bU br) rfl,?_⟩
  exact .inr ⟨I,rfl,(s.del 2).del 0⟩
def mq (l:List Nat)(n:Nat): List Nat:=a_ l 4 (le 8 n)
def cX (l:List Nat)(n:Nat): List Nat:=a_ (mq l n) 0 (le 4 (vR 0 ((mq l n).drop 4)))
theorem uy {n:Nat}(I:l.length=512): (mq l n).length=512:=by rw [mq,cK (by rw [dK]; omega),I]
theorem PN (I:W told){n:Nat}(s:Sat h (X::S))(hX:cT X (cY v l))(js:l.length<9223372036854775808):
  Call ⟨Tryz.prog,told⟩ 127 [v,.int .u64 (n:Int)] h fun r h'=>(bV l=true∧∃u,r=.aX [u,.int .i64 0]∧Sat h' (aU u (cX l n)::X::S))∨(bV l=false∧r=.aX [.bn,.int .i64 4]∧Sat h' (X::S)):=by
 refine Call.of_wp (I.free _ rfl) Tryz.func127 rfl rfl (zK 8 rfl (zc rfl (r6 I s hX js) ?_))
 rintro r h' (⟨hg,u,rfl,s⟩ | ⟨hg,rfl,s⟩)
 ·have J:=g9 hg
  have Ay:(mq l n).length=512:=uy J
  obtain ⟨kD,_,cap,_,rfl,_⟩:=s.eH (by omega)
  refine zk 3 rfl ?_
  refine az.cJ s rfl rfl rfl (cE iR) (fun p6 h s => ?_)
  refine zS rfl (s.iw (j:=0) rfl br rfl rfl) (fun h s => ?_)
  refine zk 6 rfl (zh rfl (ag rfl rfl aI) (rfl) (zk 5 rfl (zl rfl (s.c5 (k:=0) rfl bU br) (zm rfl (zc rfl (nK (a:=4) (z:=8) I (s.ae [1]) (by decide) (by decide) (by omega) (by omega)) ?_)))))
  rintro r h' ⟨rfl,s⟩
  have s:=s.ae [1,0]
  have s:Sat _ (_::aU _ (mq l n)::_):=s
  refine zk 2 rfl ?_
  have s0:=s
  have Az:=(s.buf (k:=1) rfl).view.1
  have ec:(mq l n).length=l.length:=by omega
  rw [←ec] at *
  refine WP.drawn [some (0,2),ak,ak,ak,ak,ak,ak] rfl (by kernel_rfl) (by kernel_rfl) ?_
  refine zL rfl (s.c5 (k:=0) rfl bU br) (zF rfl (fL _ _) (zL rfl (s.ld (k:=0) rfl bK rfl) (zO rfl (eF (p:=some (.int .i64 4)) (q:=none) (m:=none) (p':=some 4) (q':=none) (m':=none) rfl rfl rfl rfl rfl rfl rfl (jM (s.buf (k:=1) rfl).view (a:=4) (by omega)).1) ?_)))
  refine aB.any rfl rfl rfl rfl (OpR.call rfl rfl rfl rfl (Ou I s (k:=1) rfl (GJ (bj _ _) (a:=4) (by omega)) (by simp; omega))) ?_
  rintro r h' ⟨rfl,rfl⟩
  have s1:=s
  have hc:=yF (s:=0) (l:=(mq l n).drop 4) (by decide) (fun x hx=>Az x (gG hx))
  refine aB.op rfl rfl rfl (by simp only [isEff,dg]) (cN rfl (by exact kn Tryz.underlying231 dg (gz (by omega) (by omega)))) ?_
  refine aB.any rfl rfl rfl rfl (OpR.call rfl rfl rfl rfl (nK (a:=0) (z:=4) I (s.ae [1]) (by decide) (by decide) (by omega) (by omega))) ?_
  rintro r h ⟨rfl,s⟩
  have s:=s.ae [1,0]
  refine aB.nil ⟨⟨eZ (.inr ⟨rfl,⟨_,aS rfl (s0.c5 (k:=0) rfl bU br)⟩,bP _ rfl⟩) (.inr ⟨rfl,⟨_,aS rfl (s1.c5 (k:=0) rfl bU br)⟩,bP _ rfl⟩),aa,aa,aa,aa,aa,aa,aa⟩,?_⟩
  exact zg rfl (zf rfl (fL _ _) (zl rfl (s.ld (k:=0) rfl bK rfl) (zk 3 rfl (WP.ret ⟨aa,_,rfl,.inl ⟨hg,_,rfl,s.drop⟩⟩))))
 ·skip
  refine zk 3 rfl ?_
  refine az.cJ s rfl rfl rfl (cE iR) (fun p6 h s => ?_)
  refine zS rfl (s.iw (j:=0) rfl br rfl rfl) (fun h s => ?_)
  exact zk 6 rfl (zt rfl (ag rfl rfl aI) (rfl) (zk 8 rfl (WP.ret ⟨aa,_,rfl,.inr ⟨hg,rfl,s.drop⟩⟩)))
theorem Wa {P:Program}{E:List (Nat×V)}{d:TypeId}{x:Operand}{r:V}(I:lookO E x=some v)(J:arrPtrV P d v=some r): opE P E h (.sliceToArrayPointer d x)=some (r,h):=by simp only [opE,iL,I,J,aL]
theorem PO {P:Program}{t:TypeId}{id off n:Nat}{cap:Cap}(hv:View h (.sl id off n cap) l)(I:b6 P t=some true)(hs:bk P t=some l.length): loadV P h t (.ptr id off)=some (.agg (ofBytes l)):=by
 have:=hv.rdN
 obtain ⟨rfl,J⟩:=this
 simp only [loadV,I,hs,J,gY]
theorem CW : ∀(l m:List Nat),l.length=m.length→intsBeq .u8 (ofBytes l) (ofBytes m)=some (decide (l=m)):=by
 intro l
 induction l with
 | nil=>intro m hm; cases m with
  | nil=>rfl
  | cons x m=>simp at hm
 | cons x l J=>intro m hm; cases m with
  | nil=>simp at hm
  | cons y m =>
   have hi:=J m (by simpa using hm)
   simp only [ofBytes,cu] at hi ⊢
   simp only [intsBeq,ikBeq,gK,af,hi,kJ]
   by_cases I:x=y
   ·subst I; simp
   ·have:¬ ((x:Int)=(y:Int)):=by omega
    simp [this,I]
theorem MG : buildV Tryz.prog 239 []=some (.agg (ofBytes (List.replicate 512 0))):=by kernel_rfl
theorem Ow {P:Program}{t e:TypeId}{n:Nat}{x y:Operand}{m:List Nat}(hu:P.underlying t=some (.array n e))(he:P.underlying e=some (.int .u8))(hs:bk P e=some 1)(I:l.length=n)(hm:m.length=n):
  binV P h .eql t x y (.agg (ofBytes l)) (.agg (ofBytes m))=some (.bool (decide (l=m))):=by
 simp only [binV,eqArr,hu,he,hs,cG,I,hm,dn,gK,af]
 rw [CW l m (by omega)]
 rfl
def gD (l:List Nat): Int:=if l=List.replicate 512 0 then 0 else if bV l=false then 4 else if cQ l 0 4≠vR 0 (l.drop 4) then 8 else 0
theorem D9 (hT:W told)(s:Sat h (X::S))(J:cT X (cY v l))(js:l.length<9223372036854775808):
  Call ⟨Tryz.prog,told⟩ 125 [v] h fun r h'=>r=.int .i64 (gD l)∧Sat h' (X::S):=by
 have hv:=s.aG (k:=0) rfl J
 have hz:(List.replicate 512 0).length=512:=eT
 -- what follows when the page is no page of noughts
 refine Call.of_wp (hT.free _ rfl) Tryz.func125 rfl rfl (zK 8 rfl (zo rfl (aO rfl rfl rfl (aW aJ (s.aG (k:=0) rfl J))) ?_))
 refine zd rfl (ag rfl rfl e_) ?_ ?_
 ·intro hq
  have hq:l.length=512:=by simp at hq; omega
  obtain ⟨pi,po,pc,rfl⟩:=gZ hv (by omega)
  refine zk 2 rfl (zo rfl (Wa (r:=.ptr pi po) rfl (by simp only [arrPtrV,D7]; rw [hq]; rfl)) ?_)
  refine zl rfl (PO hv TL (by rw [hq]; exact TK)) ?_
  refine zo rfl (cM rfl MG) ?_
  by_cases hn:l=List.replicate 512 0
  ·skip
   exact zt rfl (ag rfl rfl (Ow D7 Tryz.underlying5 UE hq hz)) (decide_eq_true hn) (zk 7 rfl (WP.ret ⟨aa,_,rfl,by rw [gD,ax hn],s⟩))
  ·skip
   refine zh rfl (ag rfl rfl (Ow D7 Tryz.underlying5 UE hq hz)) (decide_eq_false hn) (zk 7 rfl (zc rfl (rC hT s J js) ?_))
   rintro r h' ⟨s,(⟨hg,rfl⟩ | ⟨hg,rfl⟩)⟩
   ·refine az.op rfl rfl rfl (b8 rfl) ?_
    refine zk 2 rfl ?_
    refine az.cJ s rfl rfl rfl (cE iR) (fun p3 h s => ?_)
    dsimp only [V.cells,List.length_cons,List.length_nil,Nat.reduceAdd] at s
    refine zS rfl (s.iw (j:=0) rfl br rfl rfl) (fun h s => ?_)
    dsimp only [setA] at s
    refine zk 3 rfl (WP.block (zK 3 rfl (zh rfl (ag rfl rfl aI) (rfl) (zk 4 rfl ?_))))
    have s0:=s
    refine WP.drawn [none,none,some (0,2),some (0,2),ak,ak,ak,ak] rfl (by kernel_rfl) (by kernel_rfl) ?_
    refine zL rfl (s.c5 (k:=0) rfl bU br) (aB.any rfl rfl rfl rfl (OpR.call rfl rfl rfl rfl (rz hT s (k:=1) rfl J (by decide) (by decide) (by decide) (by omega) (by omega))) ?_)
    rintro r h' ⟨rfl,s⟩
    have s1:=s
    refine zM rfl (zO rfl (eF (p:=some (.int .i64 4)) (q:=none) (m:=none) (p':=some 4) (q':=none) (m':=none) rfl rfl rfl rfl rfl rfl rfl (jM (s.aG (k:=1) rfl J) (a:=4) (by omega)).1) ?_)
    refine aB.any rfl rfl rfl rfl (OpR.call rfl rfl rfl rfl (Ou hT s (k:=1) rfl (GJ J (a:=4) (by omega)) (by simp; omega))) ?_
    rintro r h' ⟨rfl,rfl⟩
    have hc:=yF (s:=0) (l:=l.drop 4) (by decide) (fun x hx=>hv.1 x (gG hx))
    have hs:∃q c,slR (V.sl pi po l.length pc) 4 l.length=.sl pi q (l.length-4) c:=by
     cases pc with
     | exact c=>exact ⟨_,_,rfl⟩
     | rest e alt=>exact ⟨_,_,rfl⟩
    obtain ⟨q,c,hs⟩:=hs
    have Ox:(slR (V.sl pi po l.length pc) 4 l.length).beq (slR (V.sl pi po l.length pc) 4 l.length)=true:=by rw [hs]; exact xk _ _ _ _
    refine aB.op rfl rfl rfl (by simp only [isEff,bR]) (cN rfl (by exact kn Tryz.underlying231 bR (aA (by omega) (by omega)))) ?_
    by_cases I:cQ l 0 4=vR 0 (l.drop 4)
    ·skip
     refine aB.nE rfl rfl rfl rfl (ag rfl rfl aI) (by simp; exact_mod_cast I) ?_
     refine zA rfl ?_
     refine aB.nil ⟨⟨aa,aa,fun _ _=>.inr ⟨rfl,⟨_,b8 rfl⟩,bP _ rfl⟩,eZ (.inr ⟨rfl,⟨_,eF (p:=some (.int .i64 4)) (q:=none) (m:=none) (p':=some 4) (q':=none) (m':=none) rfl rfl rfl rfl rfl rfl rfl (jM (s0.aG (k:=1) rfl J) (a:=4) (by omega)).1⟩,Ox⟩) (.inr ⟨rfl,⟨_,eF (p:=some (.int .i64 4)) (q:=none) (m:=none) (p':=some 4) (q':=none) (m':=none) rfl rfl rfl rfl rfl rfl rfl (jM (s1.aG (k:=1) rfl J) (a:=4) (by omega)).1⟩,Ox⟩),aa,aa,aa,aa,aa⟩,?_⟩
     refine zj rfl (WP.skip (zg rfl (za rfl (zv ?_))))
     refine WP.ret ⟨aa,_,rfl,?_⟩
     exact ⟨by rw [gD,ai hn,ai (by rw [hg]; decide),ai (by simpa using I)],s.drop⟩
    ·skip
     refine aB.yc rfl rfl rfl rfl (ag rfl rfl aI) (by simp; exact_mod_cast I) ?_
     refine zA rfl ?_
     refine aB.nil ⟨⟨aa,aa,fun _ _=>.inr ⟨rfl,⟨_,b8 rfl⟩,bP _ rfl⟩,eZ (.inr ⟨rfl,⟨_,eF (p:=some (.int .i64 4)) (q:=none) (m:=none) (p':=some 4) (q':=none) (m':=none) rfl rfl rfl rfl rfl rfl rfl (jM (s0.aG (k:=1) rfl J) (a:=4) (by omega)).1⟩,Ox⟩) (.inr ⟨rfl,⟨_,eF (p:=some (.int .i64 4)) (q:=none) (m:=none) (p':=some 4) (q':=none) (m':=none) rfl rfl rfl rfl rfl rfl rfl (jM (s1.aG (k:=1) rfl J) (a:=4) (by omega)).1⟩,Ox⟩),aa,aa,aa,aa,aa⟩,?_⟩
     exact zK 5 rfl (WP.ret ⟨aa,_,rfl,by rw [gD,ai hn,ai (by rw [hg]; decide),ax I],s.drop⟩)
   ·skip
    refine zk 3 rfl ?_
    refine az.cJ s rfl rfl rfl (cE iR) (fun p3 h s => ?_)
    refine zS rfl (s.iw (j:=0) rfl br rfl rfl) (fun h s => ?_)
    exact zk 3 rfl (WP.block (zK 3 rfl (zt rfl (ag rfl rfl aI) (rfl) (zk 8 rfl (WP.ret ⟨aa,_,rfl,by rw [gD,ai hn,ax hg],s.drop⟩)))))
 ·intro hq
  have hq:l.length≠512:=by simp at hq; omega
  have hn:l≠List.replicate 512 0:=fun e=>hq (by rw [e,hz])
  have hg:bV l=false:=by rw [bV,dm hq,f_]
  refine zk 13 rfl (zc rfl (rC hT s J js) ?_)
  rintro r h' ⟨s,(⟨yg,rfl⟩ | ⟨_,rfl⟩)⟩
  ·rw [hg] at yg; cases yg
  ·refine az.op rfl rfl rfl (b8 rfl) ?_
   refine zk 2 rfl ?_
   refine az.cJ s rfl rfl rfl (cE iR) (fun p3 h s => ?_)
   refine zS rfl (s.iw (j:=0) rfl br rfl rfl) (fun h s => ?_)
   exact zk 3 rfl (WP.block (zK 3 rfl (zt rfl (ag rfl rfl aI) (rfl) (zk 8 rfl (WP.ret ⟨aa,_,rfl,by rw [gD,ai hn,ax hg],s.drop⟩)))))
theorem oZ {i b id off:Nat}(hv:View h v l)(hb:l[i]?=some b)(he:indexAddrV Tryz.prog 28 v (.int .i64 (i:Int))=some (.ptr id off)): loadV Tryz.prog h 5 (.ptr id off)=some (.int .u8 (b:Int)):=by
 obtain ⟨I,off',J,e2⟩:=dI hv hb
 rw [he] at J
 have e3:V.ptr id off=V.ptr I off':=bE J
 rw [e3]
 exact e2
theorem xH (hT:W told)(s:Sat h (X::S))(I:cT X (cY v l))(js:l.length<9223372036854775808):
  Call ⟨Tryz.prog,told⟩ 142 [v] h fun r h'=>Sat h' (X::S)∧((bV l=true∧r=.aX [.int .i64 (l.getD 12 0:Nat),.int .u64 (cQ l 4 8),.int .i64 (cQ l 18 4),.int .i64 (cQ l 22 4),.int .i64 0]) ∨
   (bV l=false∧r=.aX [.int .i64 0,.int .u64 0,.int .i64 0,.int .i64 0,.int .i64 4])):=by
 have hv:=s.aG (k:=0) rfl I
 refine Call.of_wp (hT.free _ rfl) Tryz.func142 rfl rfl (zK 11 rfl (zc rfl (rC hT s I js) ?_))
 rintro r h' ⟨s,(⟨hg,rfl⟩ | ⟨hg,rfl⟩)⟩
 ·have hq:=g9 hg
  obtain ⟨pi,po,pc,rfl⟩:=gZ hv (by omega)
  have J:l[12]?=some (l[12]'(by omega)):=aM _
  generalize Gh:(l[12]'(by omega))=b at J
  have rR:b<256:=hv.1 b (aV J)
  have oY:l.getD 12 0=b:=by rw [dN,J]; rfl
  rw [oY]
  refine zk 3 rfl ?_
  refine az.cJ s rfl rfl rfl (cE iR) (fun p7 h s => ?_)
  refine zS rfl (s.iw (j:=0) rfl br rfl rfl) (fun h s => ?_)
  refine zk 6 rfl (zh rfl (ag rfl rfl aI) (rfl) (zk 4 rfl ?_))
  have s0:=s
  obtain ⟨id,off,e1,e2⟩:=dI (s.aG (k:=1) rfl I) J
  refine WP.drawn [some (0,4),some (0,4),some (0,4),some (0,4),ak,ak,ak,some (0,2),none,some (0,3),ak,ak,ak,ak,ak,ak] rfl (by kernel_rfl) (by kernel_rfl) ?_
  refine zM rfl (zO rfl (cn (r:=.ptr id off) rfl rfl e1) (zL rfl (oZ (s.aG (k:=1) rfl I) J e1) (aB.op rfl rfl rfl (by simp only [isEff,bR]) (cN rfl (by exact kn Tryz.underlying5 bR (aA (by omega) (by omega)))) ?_)))
  refine zM rfl (zO rfl (eF (p:=some (.int .i64 4)) (q:=some (.int .i64 12)) (m:=none) (p':=some 4) (q':=some 12) (m':=none) rfl rfl rfl rfl rfl rfl rfl (iS (s.aG (k:=1) rfl I) (a:=4) (b:=12) (by omega) (by omega)).1) ?_)
  refine aB.any rfl rfl rfl rfl (OpR.call rfl rfl rfl rfl (GN hT s (k:=1) rfl (uu I (a:=4) (b:=12) (by omega) (by omega)) (by simp; omega))) ?_
  rintro r h' ⟨rfl,rfl⟩
  have s1:=s
  refine zL rfl (s.c5 (k:=0) rfl bU br) (aB.any rfl rfl rfl rfl (OpR.call rfl rfl rfl rfl (rz hT s (k:=1) rfl I (by decide) (by decide) (by decide) (by omega) (by omega))) ?_)
  rintro r h' ⟨rfl,s⟩
  have s2:=s
  refine zL rfl (s.c5 (k:=0) rfl bU br) (aB.any rfl rfl rfl rfl (OpR.call rfl rfl rfl rfl (rz hT s (k:=1) rfl I (by decide) (by decide) (by decide) (by omega) (by omega))) ?_)
  rintro r h' ⟨rfl,s⟩
  refine zA rfl (zA rfl (zA rfl (zA rfl (zA rfl ?_))))
  refine aB.nil ⟨⟨fun _ _=>.inr ⟨rfl,⟨_,b8 rfl⟩,bP _ rfl⟩,fun _ _=>.inr ⟨rfl,⟨_,cn (r:=.ptr id off) rfl rfl e1⟩,bP _ rfl⟩,Ka (.inr ⟨rfl,⟨_,aS rfl (oZ (s0.aG (k:=1) rfl I) J e1)⟩,bP _ rfl⟩) (.inr ⟨rfl,⟨_,aS rfl (oZ (s1.aG (k:=1) rfl I) J e1)⟩,bP _ rfl⟩) (.inr ⟨rfl,⟨_,aS rfl (oZ (s2.aG (k:=1) rfl I) J e1)⟩,bP _ rfl⟩) (.inr ⟨rfl,⟨_,aS rfl (oZ (s.aG (k:=1) rfl I) J e1)⟩,bP _ rfl⟩),fun _ _=>.inr ⟨rfl,⟨_,cN rfl (by exact kn Tryz.underlying5 bR (aA (by omega) (by omega)))⟩,bP _ rfl⟩,aa,aa,aa,eZ (.inr ⟨rfl,⟨_,aS rfl (s0.c5 (k:=0) rfl bU br)⟩,bP _ rfl⟩) (.inr ⟨rfl,⟨_,aS rfl (s1.c5 (k:=0) rfl bU br)⟩,bP _ rfl⟩),aa,oR (.inr ⟨rfl,⟨_,aS rfl (s0.c5 (k:=0) rfl bU br)⟩,bP _ rfl⟩) (.inr ⟨rfl,⟨_,aS rfl (s1.c5 (k:=0) rfl bU br)⟩,bP _ rfl⟩) (.inr ⟨rfl,⟨_,aS rfl (s2.c5 (k:=0) rfl bU br)⟩,bP _ rfl⟩),aa,aa,aa,aa,aa,aa,aa⟩,?_⟩
  refine WP.ret ⟨aa,_,rfl,?_⟩
  exact ⟨s.drop,.inl ⟨hg,rfl⟩⟩
 ·skip
  refine zk 3 rfl ?_
  refine az.cJ s rfl rfl rfl (cE iR) (fun p7 h s => ?_)
  refine zS rfl (s.iw (j:=0) rfl br rfl rfl) (fun h s => ?_)
  exact zk 6 rfl (zt rfl (ag rfl rfl aI) (rfl) (zk 11 rfl (WP.ret ⟨aa,_,rfl,s.drop,.inr ⟨hg,rfl⟩⟩)))
end
structure Lg where
 base:Nat
 b:List Nat
 cx:List Nat
 forced:Nat
 check:Nat
def bA (l:List Nat): List V:=l.map fun (n:Nat)=>V.int .i64 (n:Int)
theorem eL (l:List Nat): (bA l).length=l.length:=by simp [bA]
def R_ (p base:Nat)(bv sv:V)(forced check:Nat): List V:=[.ptr p 0,.int .u64 (base:Int),bv,sv,.int .i64 (forced:Int),.int .u64 (check:Int)]
def cf (q p:Nat)(μ:Lg): aq:=xs fun bv:V=>xs fun sv:V=>star [pt q (.cells 6 (R_ p μ.base bv sv μ.forced μ.check) false),aU bv μ.b,.arr 1 sv (bA μ.cx)]
structure Lg.Ok (μ:Lg): Prop where
 size:μ.base+μ.b.length≤1099511627776
 many:μ.cx.length≤16777216
 low:∀s∈μ.cx,s<μ.b.length
 BS:μ.cx.Pairwise (· < ·)
 forced:μ.forced≤μ.b.length
 len:μ.b.length≤16777216
 check:μ.check≤1099511627776
theorem TX {P:Program}{h:H}{t:TypeId}{x y:Operand}{a b:Nat}(I:a+b<4611686018427387904): binV P h .quo t x y (.int .i64 ((a:Int)+(b:Int))) (.int .i64 2)=some (.int .i64 (((a+b)/2:Nat):Int)):=by
 simp only [binV,ikBeq,af,intV]
 rw [show intBeq 2 0=false from rfl,ay,F5 (by omega),aA (by omega) (by omega)]
 congr 2
section
variable {told:cz} {h:H} {S:List aq} {X:aq} {k q p:Nat} {v:V} {l:List Nat} {μ:Lg}
theorem fX : Sat h (cf q p μ::S)↔∃bv sv,Sat h (pt q (.cells 6 (R_ p μ.base bv sv μ.forced μ.check) false)::aU bv μ.b::.arr 1 sv (bA μ.cx)::S):=by
 simp only [cf,kj,cR,gX,c_]
theorem gQ {P:Program}{t e:TypeId}{cs:List V}{i:Nat}{c:V}(s:Sat h S)(hk:getA S k=some (.arr 1 v cs))(hi:cs[i]?=some c)(hu:P.underlying t=some (.slice e))(I:bk P e=some 1):
  ∃id off,indexAddrV P t v (.int .i64 (i:Int))=some (.ptr id off)∧∀t',b6 P t'=some false→loadV P h t' (.ptr id off)=some c:=by
 have J:i<cs.length:=(List.getElem?_eq_some_iff.1 hi).1
 obtain ⟨m,r,h1,h2,h3⟩:=s.at hk
 rcases h3.2 with ⟨_,rfl⟩ | ⟨id,n,cap,N,rest,rfl,hg,e1,e2,_⟩
 ·simp at hi
 ·refine ⟨id,i,?_,fun t' ht=>J3 ht (h1 _ _ hg) ?_⟩
  ·simp only [indexAddrV,hu,I,bZ]
   rw [show (decide ((0:Int)≤(i:Int))&&decide ((i:Int)<(n:Int)))=true by simp; omega,af]
   simp
  ·rw [eW,gF J,hi]
theorem Kw (I:W told)(s:Sat h (cf q p μ::S)): Call ⟨Tryz.prog,told⟩ 82 [.ptr q 0] h fun v h'=>v=.int .u64 (μ.base:Int)∧h'=h:=by
 obtain ⟨bv,sv,s⟩:=fX.1 s
 exact Call.of_wp (I.free _ rfl) Tryz.func82 rfl rfl (zK 8 rfl (zf rfl (tI _ _) (zl rfl (s.ld (k:=0) rfl nF rfl) (zk 2 rfl (WP.ret ⟨aa,_,rfl,rfl,rfl⟩)))))
theorem FF (I:W told)(s:Sat h (cf q p μ::S)): Call ⟨Tryz.prog,told⟩ 83 [.ptr q 0] h fun v h'=>v=.int .u64 (μ.check:Int)∧h'=h:=by
 obtain ⟨bv,sv,s⟩:=fX.1 s
 exact Call.of_wp (I.free _ rfl) Tryz.func83 rfl rfl (zK 8 rfl (zf rfl (Pv _ _) (zl rfl (s.ld (k:=0) rfl nF rfl) (zk 2 rfl (WP.ret ⟨aa,_,rfl,rfl,rfl⟩)))))
theorem BT (I:W told)(s:Sat h (cf q p μ::S))(J:μ.base+μ.b.length≤1099511627776): Call ⟨Tryz.prog,told⟩ 43 [.ptr q 0] h fun v h'=>v=.int .u64 ((μ.base:Int)+(μ.b.length:Int))∧h'=h:=by
 obtain ⟨bv,sv,s⟩:=fX.1 s
 refine Call.of_wp (I.free _ rfl) Tryz.func43 rfl rfl (zK 5 rfl (WP.drawn [ak,ak,ak,ak,ak,ak,ak,ak,ak,ak,ak,ak] rfl (by kernel_rfl) (by kernel_rfl) ?_))
 refine zM rfl (zN rfl (zF rfl (tI _ _) (zL rfl (s.ld (k:=0) rfl nF rfl) (zM rfl (zN rfl (zF rfl (kq _ _) (zL rfl (s.ld (k:=0) rfl bK rfl) (zO rfl (aO rfl rfl rfl (aW aJ (s.aG (k:=1) rfl (bj _ _)))) (aB.op rfl rfl rfl (by simp only [isEff,dg]) (cN rfl (by exact kn bR dg (gz (by omega) (by omega)))) ?_)))))))))
 refine zO rfl (ag rfl rfl (by exact bp (gz (by omega) (by omega)))) ?_
 refine zA rfl ?_
 refine aB.nil ⟨⟨aa,aa,aa,aa,aa,aa,aa,aa,aa,aa,aa,aa,aa⟩,?_⟩
 refine WP.ret ⟨aa,_,rfl,?_⟩
 exact ⟨rfl,rfl⟩
theorem IB (I:W told)(s:Sat h (cf q p μ::S))(J:μ.base+μ.b.length≤1099511627776)(hf:μ.forced≤μ.b.length): Call ⟨Tryz.prog,told⟩ 129 [.ptr q 0] h fun v h'=>v=.int .u64 ((μ.base:Int)+(μ.forced:Int))∧h'=h:=by
 obtain ⟨bv,sv,s⟩:=fX.1 s
 refine Call.of_wp (I.free _ rfl) Tryz.func129 rfl rfl (zK 5 rfl (WP.drawn [ak,ak,ak,ak,ak,ak,ak,ak,ak,ak,ak] rfl (by kernel_rfl) (by kernel_rfl) ?_))
 refine zM rfl (zN rfl (zF rfl (tI _ _) (zL rfl (s.ld (k:=0) rfl nF rfl) (zM rfl (zN rfl (zF rfl (BJ _ _) (zL rfl (s.ld (k:=0) rfl dS rfl) (aB.op rfl rfl rfl (by simp only [isEff,dg]) (cN rfl (by exact kn bR dg (gz (by omega) (by omega)))) ?_))))))))
 refine zO rfl (ag rfl rfl (by exact bp (gz (by omega) (by omega)))) ?_
 refine zA rfl ?_
 refine aB.nil ⟨⟨aa,aa,aa,aa,aa,aa,aa,aa,aa,aa,aa,aa⟩,?_⟩
 refine WP.ret ⟨aa,_,rfl,?_⟩
 exact ⟨rfl,rfl⟩
def Split (μ:Lg)(n i:Nat): Prop:=i≤μ.cx.length∧(∀(j s:Nat),j<i→μ.cx[j]?=some s→μ.base+s<n)∧(∀(j s:Nat),i≤j→μ.cx[j]?=some s→n≤μ.base+s)
theorem BU {l:List Nat}(J:l.Pairwise (· < ·)){i j a b:Nat}(I:i<j)(ha:l[i]?=some a)(hb:l[j]?=some b): a<b:=by
 obtain ⟨h1,rfl⟩:=List.getElem?_eq_some_iff.1 ha
 obtain ⟨h2,rfl⟩:=List.getElem?_eq_some_iff.1 hb
 exact List.pairwise_iff_getElem.1 J _ _ h1 h2 I
noncomputable def XR : Code:=eC [1,1,0,0,0] ((Tryz.f150.body).getD .skip)
theorem Kx {bv sv:V}{n:Nat}(hn:n<18446744073709551616)(I:μ.Ok)(s:Sat h (pt q (.cells 6 (R_ p μ.base bv sv μ.forced μ.check) false)::aU bv μ.b::.arr 1 sv (bA μ.cx)::S)): ∀(fuel lo hi:Nat) (E:List (Nat×V)) (Q:Ex→List (Nat×V)→H→Prop),hi-lo≤fuel→lo≤hi→hi≤μ.cx.length →
  (∀(j s:Nat),j<lo→μ.cx[j]?=some s→μ.base+s<n)→(∀(j s:Nat),hi≤j→μ.cx[j]?=some s→n≤μ.base+s) →
  Has E [(0,.ptr q 0),(1,.int .u64 (n:Int)),(5,.int .i64 (lo:Int)),(6,.int .i64 (hi:Int))]→(∀E' i,Split μ n i→look E' 5=some (.int .i64 (i:Int))→Q (.exit 0) E' h)→WP ⟨Tryz.prog,told⟩ 39 (.loop XR) E h Q:=by
 have Oy:=I.many
 have IC:=I.size
 intro fuel
 induction fuel with
 | zero =>
  intro lo hi E Q hf h1 h2 h3 h4 hE hq
  refine WP.loop (WP.has hE (zK 5 rfl (zh rfl (ag rfl rfl aR) (by simp; omega) ?_)))
  refine zk 2 rfl (WP.exit ?_)
  have e:lo=hi:=by omega
  exact hq _ lo ⟨by omega,h3,by rw [e]; exact h4⟩ rfl
 | succ fuel ih =>
  intro lo hi E Q hf h1 h2 h3 h4 hE hq
  by_cases aY:lo<hi
  ·skip
   refine WP.loop (WP.has hE (zK 5 rfl (zt rfl (ag rfl rfl aR) (by simp; omega) ?_)))
   refine zk 3 rfl (WP.block (zK 4 rfl (zb rfl (by exact bp (aA (by omega) (by omega))) ?_)))
   refine zb rfl (TX (by omega)) ?_
   refine zk 3 rfl ?_
   generalize hm:(lo+hi)/2=m
   have An:lo≤m:=by omega
   have NU:m<hi:=by omega
   obtain ⟨st,J⟩:∃st,μ.cx[m]?=some st:=⟨_,aM (by omega)⟩
   have Mu:=I.low st (aV J)
   have hlen:=I.len
   have hc:(bA μ.cx)[m]?=some (.int .i64 (st:Int)):=by simp [bA,J]
   obtain ⟨id,off,e1,e2⟩:=gQ (P:=Tryz.prog) s (k:=2) rfl hc bO kC
   refine WP.drawn [ak,ak,ak,ak,ak,ak,ak,ak,ak,ak,ak,ak,ak,ak,ak] rfl (by kernel_rfl) (by kernel_rfl) ?_
   refine zM rfl (zN rfl (zF rfl (tI _ _) (zL rfl (s.ld (k:=0) rfl nF rfl) (zM rfl (zN rfl (zF rfl (oB _ _) (zL rfl (s.ld (k:=0) rfl mK rfl) (zM rfl (zO rfl (cn (r:=.ptr id off) rfl rfl e1) (zL rfl (e2 _ dS) (aB.op rfl rfl rfl (by simp only [isEff,dg]) (cN rfl (by exact kn bR dg (gz (by omega) (by omega)))) ?_)))))))))))
   refine zO rfl (ag rfl rfl (by exact bp (gz (by omega) (by omega)))) ?_
   refine zM rfl ?_
   by_cases lz:μ.base+st<n
   ·skip
    refine aB.yc rfl rfl rfl rfl (ag rfl rfl aR) (by simp; omega) ?_
    refine aB.nil ⟨⟨aa,aa,aa,aa,aa,aa,aa,aa,aa,aa,aa,aa,aa,aa,aa,aa⟩,?_⟩
    refine zK 3 rfl (zb rfl (by exact bp (aA (by omega) (by omega))) ?_)
    refine za rfl (zv ?_)
    refine ih (m+1) hi _ Q (by omega) (by omega) h2 (fun j s hj hs => ?_) h4 ⟨rfl,rfl,rfl,rfl,aa⟩ hq
    by_cases Sa:j=m
    ·subst Sa; rw [J] at hs; injection hs with hs; omega
    ·have:=BU I.BS (show j<m by omega) hs J; omega
   ·skip
    refine aB.nE rfl rfl rfl rfl (ag rfl rfl aR) (by simp; omega) ?_
    refine aB.nil ⟨⟨aa,aa,aa,aa,aa,aa,aa,aa,aa,aa,aa,aa,aa,aa,aa,aa⟩,?_⟩
    refine zj rfl (zr rfl (zk 2 rfl (zv ?_)))
    refine ih lo m _ Q (by omega) An (by omega) h3 (fun j s hj hs => ?_) ⟨rfl,rfl,rfl,rfl,aa⟩ hq
    by_cases Sa:j=m
    ·subst Sa; rw [J] at hs; injection hs with hs; omega
    ·have:=BU I.BS (show m<j by omega) J hs; omega
  ·skip
   refine WP.loop (WP.has hE (zK 5 rfl (zh rfl (ag rfl rfl aR) (by simp; omega) ?_)))
   refine zk 2 rfl (WP.exit ?_)
   have e:lo=hi:=by omega
   exact hq _ lo ⟨by omega,h3,by rw [e]; exact h4⟩ rfl
theorem PR (hT:W told){n:Nat}(s:Sat h (cf q p μ::S))(I:μ.Ok)(hn:n<18446744073709551616): Call ⟨Tryz.prog,told⟩ 150 [.ptr q 0,.int .u64 (n:Int)] h fun v h'=>h'=h∧∃i,Split μ n i∧v=.int .i64 (i:Int):=by
 obtain ⟨bv,sv,s⟩:=fX.1 s
 refine Call.of_wp (hT.free _ rfl) Tryz.func150 rfl rfl (zK 5 rfl (WP.drawn [ak,ak,ak,ak,ak,ak,ak] rfl (by kernel_rfl) (by kernel_rfl) ?_))
 refine zM rfl (zN rfl (zF rfl (oB _ _) (zL rfl (s.ld (k:=0) rfl mK rfl) (zO rfl (aO rfl rfl rfl (s.dJ (n:=μ.cx.length) (j:=2) rfl (by rw [eL,cC]) (by decide) bO)) ?_))))
 refine zA rfl (zA rfl ?_)
 refine aB.nil ⟨⟨aa,aa,aa,aa,aa,aa,aa,aa⟩,?_⟩
 refine zw (WP.block ?_)
 refine Kx hn I s μ.cx.length 0 μ.cx.length _ _ (by omega) (by omega) (by omega) (fun j s hj _=>by omega) (fun j s hj hs => ?_) ⟨rfl,rfl,rfl,rfl,aa⟩ (fun E' i hi J => ?_)
 ·rw [qj (by omega)] at hs; cases hs
 ·skip
  exact WP.has (F:=[(5,.int .i64 (i:Int))]) ⟨J,aa⟩ (zK 5 rfl (WP.ret ⟨aa,_,rfl,rfl,i,hi,rfl⟩))
def Lg.hasB (μ:Lg)(n:Nat): Bool:=μ.cx.any fun s=>decide (μ.base+s=n)
theorem Split.has {n i:Nat}(hs:Split μ n i)(hr:μ.cx.Pairwise (· < ·)): μ.hasB n=true↔∃s,μ.cx[i]?=some s∧μ.base+s=n:=by
 rw [Lg.hasB,List.any_eq_true]
 constructor
 ·rintro ⟨s,h1,I⟩
  have I:μ.base+s=n:=by simpa using I
  obtain ⟨j,J⟩:=sK h1
  have xT:i≤j:=by
   rcases iD j i with h | h
   ·have:=hs.2.1 j s h J; omega
   ·exact h
  by_cases he:i=j
  ·subst he; exact ⟨s,J,I⟩
  ·have UI:=(List.getElem?_eq_some_iff.1 J).1
   have hi:μ.cx[i]?=some (μ.cx[i]'(by omega)):=aM _
   have h3:=hs.2.2 i _ (aD _) hi
   have h4:=BU hr (show i<j by omega) hi J
   omega
 ·rintro ⟨s,h1,I⟩
  exact ⟨s,aV h1,by simpa using I⟩
theorem Ky {i st:Nat}(I:μ.cx[i]?=some st): (bA μ.cx)[i]?=some (.int .i64 (st:Int)):=by simp [bA,I]
theorem PS (hT:W told){n:Nat}(s:Sat h (cf q p μ::S))(I:μ.Ok)(hn:n<18446744073709551616): Call ⟨Tryz.prog,told⟩ 136 [.ptr q 0,.int .u64 (n:Int)] h fun v h'=>h'=h∧v=.bool (μ.hasB n):=by
 have s0:=s
 obtain ⟨bv,sv,s⟩:=fX.1 s
 have Oy:=I.many
 have IC:=I.size
 refine Call.of_wp (hT.free _ rfl) Tryz.func136 rfl rfl (zK 8 rfl (zc rfl (PR hT s0 I hn) ?_))
 rintro v h' ⟨rfl,i,hi,rfl⟩
 have hh:=hi.has I.BS
 refine zk 3 rfl (WP.drawn [ak,ak,ak,ak,ak,ak,ak,ak,ak,ak,ak,ak,ak,ak,ak,ak,ak,ak,ak,ak,ak,ak,ak,ak,ak] rfl (by kernel_rfl) (by kernel_rfl) ?_)
 refine zM rfl (zM rfl (zN rfl (zF rfl (oB _ _) (zL rfl (s.ld (k:=0) rfl mK rfl) (zO rfl (aO rfl rfl rfl (s.dJ (n:=μ.cx.length) (j:=2) rfl (by rw [eL,cC]) (by decide) bO)) ?_)))))
 by_cases DU:i<μ.cx.length
 ·skip
  refine aB.yc rfl rfl rfl rfl (ag rfl rfl aR) (by simp; omega) ?_
  obtain ⟨st,J⟩:∃st,μ.cx[i]?=some st:=⟨_,aM DU⟩
  have Mu:=I.low st (aV J)
  obtain ⟨id,off,e1,e2⟩:=gQ (P:=Tryz.prog) s (k:=2) rfl (Ky J) bO kC
  refine zM rfl (zM rfl (zN rfl (zF rfl (tI _ _) (zL rfl (s.ld (k:=0) rfl nF rfl) (zM rfl (zN rfl (zF rfl (oB _ _) (zL rfl (s.ld (k:=0) rfl mK rfl) (zM rfl (zO rfl (cn (r:=.ptr id off) rfl rfl e1) (zL rfl (e2 _ dS) (aB.op rfl rfl rfl (by simp only [isEff,dg]) (cN rfl (by exact kn bR dg (gz (by omega) (by omega)))) ?_))))))))))))
  refine zO rfl (ag rfl rfl (by exact bp (gz (by omega) (by omega)))) ?_
  refine zM rfl ?_
  by_cases he:μ.base+st=n
  ·skip
   refine aB.yc rfl rfl rfl rfl (ag rfl rfl e_) (by simp; omega) ?_
   refine zO rfl (m8 rfl rfl) (zA rfl ?_)
   refine aB.nil ⟨⟨aa,aa,aa,aa,aa,aa,aa,aa,aa,aa,aa,aa,aa,aa,aa,aa,aa,aa,aa,aa,aa,aa,aa,aa,aa,aa⟩,?_⟩
   refine WP.ret ⟨aa,_,rfl,?_⟩
   exact ⟨rfl,by rw [hh.2 ⟨st,J,he⟩]⟩
  ·skip
   refine aB.nE rfl rfl rfl rfl (ag rfl rfl e_) (by simp; omega) ?_
   refine zO rfl (m8 rfl rfl) (zA rfl ?_)
   refine aB.nil ⟨⟨aa,aa,aa,aa,aa,aa,aa,aa,aa,aa,aa,aa,aa,aa,aa,aa,aa,aa,aa,aa,aa,aa,aa,aa,aa,aa⟩,?_⟩
   refine WP.ret ⟨aa,_,rfl,?_⟩
   refine ⟨rfl,?_⟩
   cases hb:μ.hasB n with
   | false=>rfl
   | true =>
    obtain ⟨s',h1,h2⟩:=hh.1 hb
    rw [J] at h1; have:=bE h1; omega
 ·skip
  refine aB.nE rfl rfl rfl rfl (ag rfl rfl aR) (by simp; omega) ?_
  refine zM rfl (aB.no (e:=false) rfl rfl rfl rfl (aB.no (e:=false) rfl rfl rfl rfl (aB.no (e:=false) rfl rfl rfl rfl (aB.no (e:=false) rfl rfl rfl rfl (aB.no (e:=false) rfl rfl rfl rfl (aB.no (e:=false) rfl rfl rfl rfl (aB.no (e:=false) rfl rfl rfl rfl (aB.no (e:=false) rfl rfl rfl rfl (aB.no (e:=false) rfl rfl rfl rfl (aB.no (e:=false) rfl rfl rfl rfl (aB.no (e:=false) rfl rfl rfl rfl (aB.no (e:=false) rfl rfl rfl (by simp only [isEff,dg]) ?_))))))))))))
  refine aB.no (e:=false) rfl rfl rfl rfl (aB.no (e:=false) rfl rfl rfl rfl (aB.no (e:=false) rfl rfl rfl rfl (zO rfl (kf rfl rfl) (zA rfl ?_))))
  refine aB.nil ⟨⟨aa,aa,aa,aa,aa,aa,aa,aa,aa,aa,aa,aa,aa,aa,aa,aa,aa,aa,aa,aa,aa,aa,aa,aa,aa,aa⟩,?_⟩
  refine WP.ret ⟨aa,_,rfl,?_⟩
  refine ⟨rfl,?_⟩
  cases hb:μ.hasB n with
  | false=>rfl
  | true =>
   obtain ⟨s',h1,h2⟩:=hh.1 hb
   have:=(List.getElem?_eq_some_iff.1 h1).1
   omega
theorem Kz (J:W told){n:Nat}{δ:Dk}(s:Sat h (cf q p μ::bz p δ::S))(I:μ.Ok)(hf:δ.bS<4294967296): Call ⟨Tryz.prog,told⟩ 79 [.ptr q 0,.int .u64 (n:Int)] h fun v h' =>
  (n<μ.base+μ.forced∧v=.int .i64 0∧Sat h' (cf q p μ::bz p δ::S)) ∨
  (μ.base+μ.forced≤n∧δ.dead=true∧v=.int .i64 9∧Sat h' (cf q p μ::bz p δ::S)) ∨
  (μ.base+μ.forced≤n∧δ.dead=false∧δ.bS=0∧v=.int .i64 9∧Sat h' (cf q p μ::bz p δ.die::S)) ∨
  (μ.base+μ.forced≤n∧δ.dead=false∧δ.bS≠0∧v=.int .i64 0∧Sat h' (cf q p { μ with forced:=μ.b.length }::bz p { δ.fV with eu:=δ.log.length }::S)):=by
 have IC:=I.size
 have ZZ:=I.forced
 have s0:=s
 obtain ⟨bv,sv,s⟩:=fX.1 s
 refine Call.of_wp (J.free _ rfl) Tryz.func79 rfl rfl (zK 9 rfl (zc rfl (IB J s0 I.size I.forced) ?_))
 rintro v h' ⟨rfl,rfl⟩
 by_cases aY:n<μ.base+μ.forced
 ·skip
  refine zt rfl (ag rfl rfl aR) (by simp; omega) ?_
  exact zk 6 rfl (WP.ret ⟨aa,_,rfl,.inl ⟨aY,rfl,s0⟩⟩)
 ·have hle:μ.base+μ.forced≤n:=by omega
  refine zh rfl (ag rfl rfl aR) (by simp; omega) ?_
  refine zk 8 rfl (zf rfl (GD _ _) (zl rfl (s.ld (k:=0) rfl sD rfl) (zc rfl (Kr J (s0.ae [1]) hf) ?_)))
  rintro v h (⟨hd,rfl,s⟩ | ⟨hd,h0,rfl,s⟩ | ⟨hd,h0,rfl,s⟩)
  ·refine az.op rfl rfl rfl (fD rfl) ?_
   exact zk 4 rfl (zt rfl (ag rfl rfl aI) (rfl) (zk 7 rfl (WP.ret ⟨aa,_,rfl,.inr (.inl ⟨hle,hd,rfl,s.ae [1]⟩)⟩)))
  ·skip
   exact zk 5 rfl (zt rfl (ag rfl rfl aI) (rfl) (zk 7 rfl (WP.ret ⟨aa,_,rfl,.inr (.inr (.inl ⟨hle,hd,h0,rfl,s.ae [1]⟩))⟩)))
  ·skip
   obtain ⟨bv,sv,s⟩:=fX.1 (s.ae [1])
   refine zk 5 rfl (zh rfl (ag rfl rfl aI) (rfl) (zk 8 rfl (zf rfl (kq _ _) (zl rfl (s.ld (k:=0) rfl bK rfl) (zo rfl (aO rfl rfl rfl (aW aJ (s.aG (k:=1) rfl (bj _ _)))) (zn rfl (zf rfl (BJ _ _) ?_)))))))
   refine zS rfl (by exact s.iX (k:=0) rfl kC rfl (by decide) rfl rfl) (fun h s => ?_)
   exact zk 5 rfl (WP.ret ⟨aa,_,rfl,.inr (.inr (.inr ⟨hle,hd,h0,rfl,fX.2 ⟨bv,sv,s⟩⟩))⟩)
end
end Go.Proofs.YtefepnnfphdkpaaGreat.Am
