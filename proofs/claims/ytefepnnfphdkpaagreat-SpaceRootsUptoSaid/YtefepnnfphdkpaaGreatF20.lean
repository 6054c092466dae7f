/- SpaceRoots: a part of its proof; conditions: its statement's. -/
import Derived.Test.YtefepnnfphdkpaaGreatF19
set_option linter.defProp false
namespace Go.Proofs.YtefepnnfphdkpaaGreat.Am
open Go
def HU:=@Tryz.underlying239
section
variable {told:cQ} {h:H} {S:List au} {X:au} {k:Nat} {v:V} {l:List Nat}
theorem Df (I:W told){n z:Nat}(s:Sat h (aZ v l::S))(J:z≤8)(hl:l.length+z≤140737488355328):
  Call ⟨Tryz.prog,told⟩ 95 [v,.int .i64 (z:Int),.int .u64 (n:Int)] h fun r h'=>Sat h' (aZ r (l++le z n)::S) :=
 (OC I.Tv s.wf (s.buf (k:=0) rfl) J hl).mono fun _ _ ⟨h1,h2,h3⟩=>s.AR h2 h1 h3
theorem qg (hT:W told){a z n:Nat}(s:Sat h (aZ v l::S))(hz:1≤z)(HS:z≤8)(hl:a+z≤l.length)(jo:l.length≤65536):
  Call ⟨Tryz.prog,told⟩ 99 [.agg [v],.int .i64 (a:Int),.int .i64 (z:Int),.int .u64 (n:Int)] h fun r h'=>r=.bj []∧Sat h' (aZ v (aV l a (le z n))::S):=by
 obtain ⟨I,_,cap,_,rfl,_⟩:=s.fI (by omega)
 refine Call.of_wp (hT.free _ rfl) Tryz.func99 rfl rfl (zg rfl ?_)
 refine aA.b5 s rfl rfl rfl (fe rfl rfl) (fun p4 h s => ?_)
 refine zv ?_
 have s0:=s
 refine WP.drawn [some (0,2),some (0,2),some (0,2),some (0,2),some (0,2),some (0,2),some (0,2),ai,ai,ai,ai] rfl (by kernel_rfl) (by kernel_rfl) ?_
 refine zF rfl (g8 _ _) (zL rfl (s.ld (k:=0) rfl bJ rfl) (zM rfl (zM rfl (zM rfl (zO rfl (af rfl rfl (by exact br (aC (by omega) (by omega)))) ?_)))))
 have ez:((a:Int)+(z:Int)).toNat=a+z:=by omega
 have ea:((a:Int)).toNat=a:=by omega
 refine zO rfl (cf (p:=some (.int .i64 (a:Int))) (q:=some (.int .i64 ((a:Int)+(z:Int)))) (m:=none) (p':=some a) (q':=some (a+z)) (m':=none) rfl rfl rfl rfl (by rw [dm (by omega),ea]) (by rw [dm (by omega),ez]) rfl (er (s.buf (k:=1) rfl).view (by omega) hl).1) ?_
 refine zM rfl (zM rfl (aB.any rfl rfl rfl rfl (OpR.call rfl rfl rfl rfl (Df hT s.HF HS (by simp; omega))) ?_))
 intro u h s
 have s:=s.ae [1,1,0]
 dsimp only [List.nil_append,V.cells,List.length_cons,List.length_nil,Nat.reduceAdd,bringA,getA,aQ] at s
 have s1:=s
 refine aB.any rfl rfl rfl rfl (OpR.Tq rfl (s.ae [1,1]) (bg _ _) rfl rfl rfl rfl (by omega) hl (by simp [cy]; omega)) ?_
 intro r h s
 have hs:∃q c,slR (V.sl I 0 l.length cap) a (a+z)=.sl I q (a+z-a) c:=by
  cases cap with
  | exact c=>exact ⟨_,_,rfl⟩
  | rest e alt=>exact ⟨_,_,rfl⟩
 obtain ⟨q,c,hs⟩:=hs
 have J:(slR (V.sl I 0 l.length cap) a (a+z)).beq (slR (V.sl I 0 l.length cap) a (a+z))=true:=by rw [hs]; exact CW _ _ _ _
 refine aB.nil ⟨⟨fun _ _=>.inr ⟨rfl,⟨_,lY rfl (g8 _ _)⟩,bq _ rfl⟩,dW (.inr ⟨rfl,⟨_,bh rfl (s0.ld (k:=0) rfl bJ rfl)⟩,bq _ rfl⟩) (.inr ⟨rfl,⟨_,bh rfl (s1.ld (k:=0) rfl bJ rfl)⟩,bq _ rfl⟩),fun _ _=>.inr ⟨rfl,⟨_,bz rfl⟩,bq _ rfl⟩,fun _ _=>.inr ⟨rfl,⟨_,bz rfl⟩,bq _ rfl⟩,fun _ _=>.inr ⟨rfl,⟨_,bz rfl⟩,bq _ rfl⟩,fun _ _=>.inr ⟨rfl,⟨_,af rfl rfl (by exact br (aC (by omega) (by omega)))⟩,bq _ rfl⟩,dW (.inr ⟨rfl,⟨_,cf (p:=some (.int .i64 (a:Int))) (q:=some (.int .i64 ((a:Int)+(z:Int)))) (m:=none) (p':=some a) (q':=some (a+z)) (m':=none) rfl rfl rfl rfl (by rw [dm (by omega),ea]) (by rw [dm (by omega),ez]) rfl (er (s0.buf (k:=1) rfl).view (by omega) hl).1⟩,J⟩) (.inr ⟨rfl,⟨_,cf (p:=some (.int .i64 (a:Int))) (q:=some (.int .i64 ((a:Int)+(z:Int)))) (m:=none) (p':=some a) (q':=some (a+z)) (m':=none) rfl rfl rfl rfl (by rw [dm (by omega),ea]) (by rw [dm (by omega),ez]) rfl (er (s1.buf (k:=1) rfl).view (by omega) hl).1⟩,J⟩),aa,aa,aa,aa,aa⟩,?_⟩
 refine ⟨aa,_,rfl,rfl,?_⟩
 rw [show a+z-a=z by omega,dO (by rw [cy]; omega)] at s
 exact (s.del 1).del 1
theorem uA (hT:W told)(s:Sat h (X::S))(hX:cT X (cU v l))(J:l.length<9223372036854775808):
  Call ⟨Tryz.prog,told⟩ 153 [v] h fun r h'=>Sat h' (X::S)∧((b7 l=true∧r=.bj [.agg [v],.int .i64 0])∨(b7 l=false∧r=.bj [.agg [.bw],.int .i64 4])):=by
 have hv:=s.aE (k:=0) rfl hX
 refine Call.of_wp (hT.free _ rfl) Tryz.func153 rfl rfl (zg rfl ?_)
 refine aA.b5 s rfl rfl rfl (bX j7) (fun p2 h s => ?_)
 refine zk 6 rfl (zc rfl (KP hT (s.ae [1]) hX J) ?_)
 rintro r h' ⟨rfl,s⟩
 cases hg:b7 l with
 | true =>
  have I:1≤l.length:=by
   have:l.length=512:=by simp only [b7,aO,eL] at hg; exact hg.1
   omega
  obtain ⟨pi,po,pc,rfl⟩:=iC hv I
  refine zo rfl (eD rfl rfl) (zk 6 rfl (zo rfl (c_ rfl (by rw [AX]; rfl)) ?_))
  refine zS rfl (s.eH (j:=1) rfl bL rfl rfl) (fun h s => ?_)
  refine zk 2 rfl ?_
  refine WP.ret ⟨aa,_,GG rfl (s.cA (k:=1) rfl cG bL) rfl,?_⟩
  exact ⟨s.del 1,.inl ⟨rfl,rfl⟩⟩
 | false =>
  refine zo rfl (eD rfl rfl) (zk 4 rfl (zo rfl (c_ rfl (by rw [AX]; rfl)) ?_))
  refine zS rfl (s.eH (j:=1) rfl bL rfl rfl) (fun h s => ?_)
  refine zk 2 rfl ?_
  refine WP.ret ⟨aa,_,GG rfl (s.cA (k:=1) rfl cG bL) rfl,?_⟩
  exact ⟨s.del 1,.inr ⟨rfl,rfl⟩⟩
theorem eX (I:b7 l=true): l.length=512:=by simp only [b7,aO,eL] at I; exact I.1
theorem va (hT:W told)(s:Sat h (X::S))(J:cT X (cU v l))(jo:l.length<9223372036854775808):
  Call ⟨Tryz.prog,told⟩ 100 [v] h fun r h'=>(b7 l=true∧∃u,r=.bj [.agg [u],.int .i64 0]∧Sat h' (aZ u l::X::S))∨(b7 l=false∧r=.bj [.agg [.bw],.int .i64 4]∧Sat h' (X::S)):=by
 have hv:=s.aE (k:=0) rfl J
 refine Call.of_wp (hT.free _ rfl) Tryz.func100 rfl rfl (zg rfl ?_)
 refine aA.b5 s rfl rfl rfl (bX j7) (fun p2 h s => ?_)
 refine zk 5 rfl (zc rfl (uA hT (s.ae [1]) J jo) ?_)
 rintro r h' ⟨s,(⟨I,rfl⟩ | ⟨I,rfl⟩)⟩
 ·have aaN:=eX I
  obtain ⟨pi,po,pc,rfl⟩:=iC hv (by omega)
  refine zk 3 rfl ?_
  refine aA.b5 s rfl rfl rfl (bX j7) (fun p4 h s => ?_)
  refine zS rfl (s.eH (j:=0) rfl bL rfl rfl) (fun h s => ?_)
  refine zk 6 rfl (zh rfl (af rfl rfl aN) (rfl) (zk 4 rfl ?_))
  have s0:=s
  refine WP.drawn [ai,ai,ai,ai,some (0,2),some (0,2),ai,ai,ai,ai] rfl (by kernel_rfl) (by kernel_rfl) ?_
  refine zF rfl (g8 _ _) (zL rfl (s.ld (k:=0) rfl bJ rfl) (zO rfl (aU rfl rfl rfl (pG rfl aG)) (aB.any rfl rfl rfl rfl (OpR.uq rfl s rfl rfl rfl rfl (by omega)) ?_)))
  intro u h s
  have s:=s.ae [1,1,1,0]
  have s1:=s
  refine zF rfl (g8 _ _) (zL rfl (s.ld (k:=0) rfl bJ rfl) (aB.any rfl rfl rfl rfl (OpR.ru rfl (s.ae [3,1]) J rfl rfl rfl rfl (by simp; omega)) ?_))
  intro u2 h s
  rw [cZ] at s
  obtain ⟨qw,_,cap,_,rfl,_⟩:=s.fI (by omega)
  have s2:=s
  refine zO rfl (c_ rfl (by rw [AX]; rfl)) ?_
  refine aB.i_ rfl rfl rfl (OpR.fO rfl rfl rfl (s.eH (j:=3) rfl bL rfl rfl)) ?_
  rintro w h ⟨rfl,s⟩
  have s3:=s
  refine zA rfl ?_
  refine aB.nil ⟨⟨aa,aa,aa,aa,fun _ _=>.inr ⟨rfl,⟨_,lY rfl (g8 _ _)⟩,bq _ rfl⟩,dW (.inr ⟨rfl,⟨_,bh rfl (s0.ld (k:=0) rfl bJ rfl)⟩,bq _ rfl⟩) (.inr ⟨rfl,⟨_,bh rfl (s1.ld (k:=0) rfl bJ rfl)⟩,bq _ rfl⟩),aa,aa,aa,aa,aa⟩,?_⟩
  refine WP.ret ⟨aa,_,GG rfl (s.cA (k:=3) rfl cG bL) rfl,?_⟩
  exact .inl ⟨I,_,rfl,(s.del 2).del 2⟩
 ·skip
  refine zk 3 rfl ?_
  refine aA.b5 s rfl rfl rfl (bX j7) (fun p4 h s => ?_)
  refine zS rfl (s.eH (j:=0) rfl bL rfl rfl) (fun h s => ?_)
  refine zk 6 rfl (zt rfl (af rfl rfl aN) (rfl) (zk 4 rfl (zo rfl (c_ rfl (by rw [AX]; rfl)) ?_)))
  refine zm rfl ?_
  refine zS rfl (s.eH (j:=2) rfl bL rfl rfl) (fun h s => ?_)
  refine zk 2 rfl ?_
  refine WP.ret ⟨aa,_,GG rfl (s.cA (k:=2) rfl cG bL) rfl,?_⟩
  exact .inr ⟨I,rfl,(s.del 2).del 0⟩
def nf (l:List Nat)(n:Nat): List Nat:=aV l 4 (le 8 n)
def cM (l:List Nat)(n:Nat): List Nat:=aV (nf l n) 0 (le 4 (zH 0 ((nf l n).drop 4)))
theorem xD {n:Nat}(I:l.length=512): (nf l n).length=512:=by rw [nf,cz (by rw [cy]; omega),I]
theorem KQ (I:W told){n:Nat}(s:Sat h (X::S))(hX:cT X (cU v l))(jo:l.length<9223372036854775808):
  Call ⟨Tryz.prog,told⟩ 127 [v,.int .u64 (n:Int)] h fun r h'=>(b7 l=true∧∃u,r=.bj [u,.int .i64 0]∧Sat h' (aZ u (cM l n)::X::S))∨(b7 l=false∧r=.bj [.bw,.int .i64 4]∧Sat h' (X::S)):=by
 refine Call.of_wp (I.free _ rfl) Tryz.func127 rfl rfl (zK 8 rfl (zc rfl (va I s hX jo) ?_))
 rintro r h' (⟨hg,u,rfl,s⟩ | ⟨hg,rfl,s⟩)
 ·have J:=eX hg
  have wM:(nf l n).length=512:=xD J
  obtain ⟨qw,_,cap,_,rfl,_⟩:=s.fI (by omega)
  refine zk 3 rfl ?_
  refine aA.b5 s rfl rfl rfl (bX j7) (fun p6 h s => ?_)
  refine zS rfl (s.eH (j:=0) rfl bL rfl rfl) (fun h s => ?_)
  refine zk 6 rfl (zh rfl (af rfl rfl aN) (rfl) (zk 5 rfl (zl rfl (s.cA (k:=0) rfl cG bL) (zm rfl (zc rfl (qg (a:=4) (z:=8) I (s.ae [1]) (by decide) (by decide) (by omega) (by omega)) ?_)))))
  rintro r h' ⟨rfl,s⟩
  have s:=s.ae [1,0]
  have s:Sat _ (_::aZ _ (nf l n)::_):=s
  refine zk 2 rfl ?_
  have s0:=s
  have zP:=(s.buf (k:=1) rfl).view.1
  have ec:(nf l n).length=l.length:=by omega
  rw [←ec] at *
  refine WP.drawn [some (0,2),ai,ai,ai,ai,ai,ai] rfl (by kernel_rfl) (by kernel_rfl) ?_
  refine zL rfl (s.cA (k:=0) rfl cG bL) (zF rfl (g8 _ _) (zL rfl (s.ld (k:=0) rfl bJ rfl) (zO rfl (cf (p:=some (.int .i64 4)) (q:=none) (m:=none) (p':=some 4) (q':=none) (m':=none) rfl rfl rfl rfl rfl rfl rfl (eO (s.buf (k:=1) rfl).view (a:=4) (by omega)).1) ?_)))
  refine aB.any rfl rfl rfl rfl (OpR.call rfl rfl rfl rfl (Tw I s (k:=1) rfl (rq (bg _ _) (a:=4) (by omega)) (by simp; omega))) ?_
  rintro r h' ⟨rfl,rfl⟩
  have s1:=s
  have hc:=B5 (s:=0) (l:=(nf l n).drop 4) (by decide) (fun x hx=>zP x (iT hx))
  refine aB.op rfl rfl rfl (by simp only [isEff,cE]) (cJ rfl (by exact iZ Tryz.underlying231 cE (fD (by omega) (by omega)))) ?_
  refine aB.any rfl rfl rfl rfl (OpR.call rfl rfl rfl rfl (qg (a:=0) (z:=4) I (s.ae [1]) (by decide) (by decide) (by omega) (by omega))) ?_
  rintro r h ⟨rfl,s⟩
  have s:=s.ae [1,0]
  refine aB.nil ⟨⟨dW (.inr ⟨rfl,⟨_,bh rfl (s0.cA (k:=0) rfl cG bL)⟩,bq _ rfl⟩) (.inr ⟨rfl,⟨_,bh rfl (s1.cA (k:=0) rfl cG bL)⟩,bq _ rfl⟩),aa,aa,aa,aa,aa,aa,aa⟩,?_⟩
  exact zg rfl (zf rfl (g8 _ _) (zl rfl (s.ld (k:=0) rfl bJ rfl) (zk 3 rfl (WP.ret ⟨aa,_,rfl,.inl ⟨hg,_,rfl,s.drop⟩⟩))))
 ·skip
  refine zk 3 rfl ?_
  refine aA.b5 s rfl rfl rfl (bX j7) (fun p6 h s => ?_)
  refine zS rfl (s.eH (j:=0) rfl bL rfl rfl) (fun h s => ?_)
  exact zk 6 rfl (zt rfl (af rfl rfl aN) (rfl) (zk 8 rfl (WP.ret ⟨aa,_,rfl,.inr ⟨hg,rfl,s.drop⟩⟩)))
theorem aaO {P:Program}{E:List (Nat×V)}{d:TypeId}{x:Operand}{r:V}(I:lookO E x=some v)(J:arrPtrV P d v=some r): opE P E h (.sliceToArrayPointer d x)=some (r,h):=by simp only [opE,jQ,I,J,aY]
theorem UH {P:Program}{t:TypeId}{id off n:Nat}{cap:Cap}(hv:View h (.sl id off n cap) l)(I:cm P t=some true)(hs:bH P t=some l.length): loadV P h t (.ptr id off)=some (.agg (ofBytes l)):=by
 have:=hv.rdN
 obtain ⟨rfl,J⟩:=this
 simp only [loadV,I,hs,J,jN]
theorem Gs : ∀(l m:List Nat),l.length=m.length→intsBeq .u8 (ofBytes l) (ofBytes m)=some (decide (l=m)):=by
 intro l
 induction l with
 | nil=>intro m hm; cases m with
  | nil=>rfl
  | cons x m=>simp at hm
 | cons x l J=>intro m hm; cases m with
  | nil=>simp at hm
  | cons y m =>
   have hi:=J m (by simpa using hm)
   simp only [ofBytes,b6] at hi ⊢
   simp only [intsBeq,ikBeq,iu,ag,hi,k_]
   by_cases I:x=y
   ·subst I; simp
   ·have:¬ ((x:Int)=(y:Int)):=by omega
    simp [this,I]
theorem Rb : buildV Tryz.prog 239 []=some (.agg (ofBytes (List.replicate 512 0))):=by kernel_rfl
theorem Tx {P:Program}{t e:TypeId}{n:Nat}{x y:Operand}{m:List Nat}(hu:P.underlying t=some (.array n e))(he:P.underlying e=some (.int .u8))(hs:bH P e=some 1)(I:l.length=n)(hm:m.length=n):
  binV P h .eql t x y (.agg (ofBytes l)) (.agg (ofBytes m))=some (.bool (decide (l=m))):=by
 simp only [binV,eqArr,hu,he,hs,c7,I,hm,dR,iu,ag]
 rw [Gs l m (by omega)]
 rfl
def gr (l:List Nat): Int:=if l=List.replicate 512 0 then 0 else if b7 l=false then 4 else if dn l 0 4≠zH 0 (l.drop 4) then 8 else 0
theorem HV (hT:W told)(s:Sat h (X::S))(J:cT X (cU v l))(jo:l.length<9223372036854775808):
  Call ⟨Tryz.prog,told⟩ 125 [v] h fun r h'=>r=.int .i64 (gr l)∧Sat h' (X::S):=by
 have hv:=s.aE (k:=0) rfl J
 have hz:(List.replicate 512 0).length=512:=cY
 -- what follows when the page is no page of noughts
 refine Call.of_wp (hT.free _ rfl) Tryz.func125 rfl rfl (zK 8 rfl (zo rfl (aU rfl rfl rfl (a_ aG (s.aE (k:=0) rfl J))) ?_))
 refine zd rfl (af rfl rfl eA) ?_ ?_
 ·intro hq
  have hq:l.length=512:=by simp at hq; omega
  obtain ⟨pi,po,pc,rfl⟩:=iC hv (by omega)
  refine zk 2 rfl (zo rfl (aaO (r:=.ptr pi po) rfl (by simp only [arrPtrV,HU]; rw [hq]; rfl)) ?_)
  refine zl rfl (UH hv YJ (by rw [hq]; exact YI)) ?_
  refine zo rfl (c_ rfl Rb) ?_
  by_cases hn:l=List.replicate 512 0
  ·skip
   exact zt rfl (af rfl rfl (Tx HU Tryz.underlying5 ZO hq hz)) (decide_eq_true hn) (zk 7 rfl (WP.ret ⟨aa,_,rfl,by rw [gr,aj hn],s⟩))
  ·skip
   refine zh rfl (af rfl rfl (Tx HU Tryz.underlying5 ZO hq hz)) (decide_eq_false hn) (zk 7 rfl (zc rfl (uA hT s J jo) ?_))
   rintro r h' ⟨s,(⟨hg,rfl⟩ | ⟨hg,rfl⟩)⟩
   ·refine aA.op rfl rfl rfl (bz rfl) ?_
    refine zk 2 rfl ?_
    refine aA.b5 s rfl rfl rfl (bX j7) (fun p3 h s => ?_)
    dsimp only [V.cells,List.length_cons,List.length_nil,Nat.reduceAdd] at s
    refine zS rfl (s.eH (j:=0) rfl bL rfl rfl) (fun h s => ?_)
    dsimp only [setA] at s
    refine zk 3 rfl (WP.block (zK 3 rfl (zh rfl (af rfl rfl aN) (rfl) (zk 4 rfl ?_))))
    have s0:=s
    refine WP.drawn [none,none,some (0,2),some (0,2),ai,ai,ai,ai] rfl (by kernel_rfl) (by kernel_rfl) ?_
    refine zL rfl (s.cA (k:=0) rfl cG bL) (aB.any rfl rfl rfl rfl (OpR.call rfl rfl rfl rfl (uy hT s (k:=1) rfl J (by decide) (by decide) (by decide) (by omega) (by omega))) ?_)
    rintro r h' ⟨rfl,s⟩
    have s1:=s
    refine zM rfl (zO rfl (cf (p:=some (.int .i64 4)) (q:=none) (m:=none) (p':=some 4) (q':=none) (m':=none) rfl rfl rfl rfl rfl rfl rfl (eO (s.aE (k:=1) rfl J) (a:=4) (by omega)).1) ?_)
    refine aB.any rfl rfl rfl rfl (OpR.call rfl rfl rfl rfl (Tw hT s (k:=1) rfl (rq J (a:=4) (by omega)) (by simp; omega))) ?_
    rintro r h' ⟨rfl,rfl⟩
    have hc:=B5 (s:=0) (l:=l.drop 4) (by decide) (fun x hx=>hv.1 x (iT hx))
    have hs:∃q c,slR (V.sl pi po l.length pc) 4 l.length=.sl pi q (l.length-4) c:=by
     cases pc with
     | exact c=>exact ⟨_,_,rfl⟩
     | rest e alt=>exact ⟨_,_,rfl⟩
    obtain ⟨q,c,hs⟩:=hs
    have FF:(slR (V.sl pi po l.length pc) 4 l.length).beq (slR (V.sl pi po l.length pc) 4 l.length)=true:=by rw [hs]; exact CW _ _ _ _
    refine aB.op rfl rfl rfl (by simp only [isEff,bD]) (cJ rfl (by exact iZ Tryz.underlying231 bD (aC (by omega) (by omega)))) ?_
    by_cases I:dn l 0 4=zH 0 (l.drop 4)
    ·skip
     refine aB.oD rfl rfl rfl rfl (af rfl rfl aN) (by simp; exact_mod_cast I) ?_
     refine zA rfl ?_
     refine aB.nil ⟨⟨aa,aa,fun _ _=>.inr ⟨rfl,⟨_,bz rfl⟩,bq _ rfl⟩,dW (.inr ⟨rfl,⟨_,cf (p:=some (.int .i64 4)) (q:=none) (m:=none) (p':=some 4) (q':=none) (m':=none) rfl rfl rfl rfl rfl rfl rfl (eO (s0.aE (k:=1) rfl J) (a:=4) (by omega)).1⟩,FF⟩) (.inr ⟨rfl,⟨_,cf (p:=some (.int .i64 4)) (q:=none) (m:=none) (p':=some 4) (q':=none) (m':=none) rfl rfl rfl rfl rfl rfl rfl (eO (s1.aE (k:=1) rfl J) (a:=4) (by omega)).1⟩,FF⟩),aa,aa,aa,aa,aa⟩,?_⟩
     refine zj rfl (WP.skip (zg rfl (za rfl (zv ?_))))
     refine WP.ret ⟨aa,_,rfl,?_⟩
     exact ⟨by rw [gr,ah hn,ah (by rw [hg]; decide),ah (by simpa using I)],s.drop⟩
    ·skip
     refine aB.y5 rfl rfl rfl rfl (af rfl rfl aN) (by simp; exact_mod_cast I) ?_
     refine zA rfl ?_
     refine aB.nil ⟨⟨aa,aa,fun _ _=>.inr ⟨rfl,⟨_,bz rfl⟩,bq _ rfl⟩,dW (.inr ⟨rfl,⟨_,cf (p:=some (.int .i64 4)) (q:=none) (m:=none) (p':=some 4) (q':=none) (m':=none) rfl rfl rfl rfl rfl rfl rfl (eO (s0.aE (k:=1) rfl J) (a:=4) (by omega)).1⟩,FF⟩) (.inr ⟨rfl,⟨_,cf (p:=some (.int .i64 4)) (q:=none) (m:=none) (p':=some 4) (q':=none) (m':=none) rfl rfl rfl rfl rfl rfl rfl (eO (s1.aE (k:=1) rfl J) (a:=4) (by omega)).1⟩,FF⟩),aa,aa,aa,aa,aa⟩,?_⟩
     exact zK 5 rfl (WP.ret ⟨aa,_,rfl,by rw [gr,ah hn,ah (by rw [hg]; decide),aj I],s.drop⟩)
   ·skip
    refine zk 3 rfl ?_
    refine aA.b5 s rfl rfl rfl (bX j7) (fun p3 h s => ?_)
    refine zS rfl (s.eH (j:=0) rfl bL rfl rfl) (fun h s => ?_)
    exact zk 3 rfl (WP.block (zK 3 rfl (zt rfl (af rfl rfl aN) (rfl) (zk 8 rfl (WP.ret ⟨aa,_,rfl,by rw [gr,ah hn,aj hg],s.drop⟩)))))
 ·intro hq
  have hq:l.length≠512:=by simp at hq; omega
  have hn:l≠List.replicate 512 0:=fun e=>hq (by rw [e,hz])
  have hg:b7 l=false:=by rw [b7,eU hq,gZ]
  refine zk 13 rfl (zc rfl (uA hT s J jo) ?_)
  rintro r h' ⟨s,(⟨KL,rfl⟩ | ⟨_,rfl⟩)⟩
  ·rw [hg] at KL; cases KL
  ·refine aA.op rfl rfl rfl (bz rfl) ?_
   refine zk 2 rfl ?_
   refine aA.b5 s rfl rfl rfl (bX j7) (fun p3 h s => ?_)
   refine zS rfl (s.eH (j:=0) rfl bL rfl rfl) (fun h s => ?_)
   exact zk 3 rfl (WP.block (zK 3 rfl (zt rfl (af rfl rfl aN) (rfl) (zk 8 rfl (WP.ret ⟨aa,_,rfl,by rw [gr,ah hn,aj hg],s.drop⟩)))))
theorem rY {i b id off:Nat}(hv:View h v l)(hb:l[i]?=some b)(he:indexAddrV Tryz.prog 28 v (.int .i64 (i:Int))=some (.ptr id off)): loadV Tryz.prog h 5 (.ptr id off)=some (.int .u8 (b:Int)):=by
 obtain ⟨I,off',J,e2⟩:=eP hv hb
 rw [he] at J
 have e3:V.ptr id off=V.ptr I off':=bk J
 rw [e3]
 exact e2
theorem KR (hT:W told)(s:Sat h (X::S))(I:cT X (cU v l))(jo:l.length<9223372036854775808):
  Call ⟨Tryz.prog,told⟩ 142 [v] h fun r h'=>Sat h' (X::S)∧((b7 l=true∧r=.bj [.int .i64 (l.getD 12 0:Nat),.int .u64 (dn l 4 8),.int .i64 (dn l 18 4),.int .i64 (dn l 22 4),.int .i64 0]) ∨
   (b7 l=false∧r=.bj [.int .i64 0,.int .u64 0,.int .i64 0,.int .i64 0,.int .i64 4])):=by
 have hv:=s.aE (k:=0) rfl I
 refine Call.of_wp (hT.free _ rfl) Tryz.func142 rfl rfl (zK 11 rfl (zc rfl (uA hT s I jo) ?_))
 rintro r h' ⟨s,(⟨hg,rfl⟩ | ⟨hg,rfl⟩)⟩
 ·have hq:=eX hg
  obtain ⟨pi,po,pc,rfl⟩:=iC hv (by omega)
  have J:l[12]?=some (l[12]'(by omega)):=bf _
  generalize Kt:(l[12]'(by omega))=b at J
  have G5:b<256:=hv.1 b (bC J)
  have qx:l.getD 12 0=b:=by rw [dU,J]; rfl
  rw [qx]
  refine zk 3 rfl ?_
  refine aA.b5 s rfl rfl rfl (bX j7) (fun p7 h s => ?_)
  refine zS rfl (s.eH (j:=0) rfl bL rfl rfl) (fun h s => ?_)
  refine zk 6 rfl (zh rfl (af rfl rfl aN) (rfl) (zk 4 rfl ?_))
  have s0:=s
  obtain ⟨id,off,e1,e2⟩:=eP (s.aE (k:=1) rfl I) J
  refine WP.drawn [some (0,4),some (0,4),some (0,4),some (0,4),ai,ai,ai,some (0,2),none,some (0,3),ai,ai,ai,ai,ai,ai] rfl (by kernel_rfl) (by kernel_rfl) ?_
  refine zM rfl (zO rfl (dr (r:=.ptr id off) rfl rfl e1) (zL rfl (rY (s.aE (k:=1) rfl I) J e1) (aB.op rfl rfl rfl (by simp only [isEff,bD]) (cJ rfl (by exact iZ Tryz.underlying5 bD (aC (by omega) (by omega)))) ?_)))
  refine zM rfl (zO rfl (cf (p:=some (.int .i64 4)) (q:=some (.int .i64 12)) (m:=none) (p':=some 4) (q':=some 12) (m':=none) rfl rfl rfl rfl rfl rfl rfl (er (s.aE (k:=1) rfl I) (a:=4) (b:=12) (by omega) (by omega)).1) ?_)
  refine aB.any rfl rfl rfl rfl (OpR.call rfl rfl rfl rfl (n4 hT s (k:=1) rfl (lB I (a:=4) (b:=12) (by omega) (by omega)) (by simp; omega))) ?_
  rintro r h' ⟨rfl,rfl⟩
  have s1:=s
  refine zL rfl (s.cA (k:=0) rfl cG bL) (aB.any rfl rfl rfl rfl (OpR.call rfl rfl rfl rfl (uy hT s (k:=1) rfl I (by decide) (by decide) (by decide) (by omega) (by omega))) ?_)
  rintro r h' ⟨rfl,s⟩
  have s2:=s
  refine zL rfl (s.cA (k:=0) rfl cG bL) (aB.any rfl rfl rfl rfl (OpR.call rfl rfl rfl rfl (uy hT s (k:=1) rfl I (by decide) (by decide) (by decide) (by omega) (by omega))) ?_)
  rintro r h' ⟨rfl,s⟩
  refine zA rfl (zA rfl (zA rfl (zA rfl (zA rfl ?_))))
  refine aB.nil ⟨⟨fun _ _=>.inr ⟨rfl,⟨_,bz rfl⟩,bq _ rfl⟩,fun _ _=>.inr ⟨rfl,⟨_,dr (r:=.ptr id off) rfl rfl e1⟩,bq _ rfl⟩,WE (.inr ⟨rfl,⟨_,bh rfl (rY (s0.aE (k:=1) rfl I) J e1)⟩,bq _ rfl⟩) (.inr ⟨rfl,⟨_,bh rfl (rY (s1.aE (k:=1) rfl I) J e1)⟩,bq _ rfl⟩) (.inr ⟨rfl,⟨_,bh rfl (rY (s2.aE (k:=1) rfl I) J e1)⟩,bq _ rfl⟩) (.inr ⟨rfl,⟨_,bh rfl (rY (s.aE (k:=1) rfl I) J e1)⟩,bq _ rfl⟩),fun _ _=>.inr ⟨rfl,⟨_,cJ rfl (by exact iZ Tryz.underlying5 bD (aC (by omega) (by omega)))⟩,bq _ rfl⟩,aa,aa,aa,dW (.inr ⟨rfl,⟨_,bh rfl (s0.cA (k:=0) rfl cG bL)⟩,bq _ rfl⟩) (.inr ⟨rfl,⟨_,bh rfl (s1.cA (k:=0) rfl cG bL)⟩,bq _ rfl⟩),aa,yW (.inr ⟨rfl,⟨_,bh rfl (s0.cA (k:=0) rfl cG bL)⟩,bq _ rfl⟩) (.inr ⟨rfl,⟨_,bh rfl (s1.cA (k:=0) rfl cG bL)⟩,bq _ rfl⟩) (.inr ⟨rfl,⟨_,bh rfl (s2.cA (k:=0) rfl cG bL)⟩,bq _ rfl⟩),aa,aa,aa,aa,aa,aa,aa⟩,?_⟩
  refine WP.ret ⟨aa,_,rfl,?_⟩
  exact ⟨s.drop,.inl ⟨hg,rfl⟩⟩
 ·skip
  refine zk 3 rfl ?_
  refine aA.b5 s rfl rfl rfl (bX j7) (fun p7 h s => ?_)
  refine zS rfl (s.eH (j:=0) rfl bL rfl rfl) (fun h s => ?_)
  exact zk 6 rfl (zt rfl (af rfl rfl aN) (rfl) (zk 11 rfl (WP.ret ⟨aa,_,rfl,s.drop,.inr ⟨hg,rfl⟩⟩)))
end
structure Lg where
 base:Nat
 b:List Nat
 cF:List Nat
 forced:Nat
 check:Nat
def ej (l:List Nat): List V:=l.map fun (n:Nat)=>V.int .i64 (n:Int)
theorem iD (l:List Nat): (ej l).length=l.length:=by simp [ej]
def zQ (p base:Nat)(bv I:V)(forced check:Nat): List V:=[.ptr p 0,.int .u64 (base:Int),bv,I,.int .i64 (forced:Int),.int .u64 (check:Int)]
def b8 (q p:Nat)(μ:Lg): au:=xs fun bv:V=>xs fun I:V=>star [pt q (.cells 6 (zQ p μ.base bv I μ.forced μ.check) false),aZ bv μ.b,.arr 1 I (ej μ.cF)]
structure Lg.Ok (μ:Lg): Prop where
 size:μ.base+μ.b.length≤1099511627776
 many:μ.cF.length≤16777216
 low:∀s∈μ.cF,s<μ.b.length
 ER:μ.cF.Pairwise (· < ·)
 forced:μ.forced≤μ.b.length
 len:μ.b.length≤16777216
 check:μ.check≤1099511627776
theorem YU {P:Program}{h:H}{t:TypeId}{x y:Operand}{a b:Nat}(I:a+b<4611686018427387904): binV P h .quo t x y (.int .i64 ((a:Int)+(b:Int))) (.int .i64 2)=some (.int .i64 (((a+b)/2:Nat):Int)):=by
 simp only [binV,ikBeq,ag,intV]
 rw [show intBeq 2 0=false from rfl,az,DT (by omega),aC (by omega) (by omega)]
 congr 2
section
variable {told:cQ} {h:H} {S:List au} {X:au} {k q p:Nat} {v:V} {l:List Nat} {μ:Lg}
theorem fL : Sat h (b8 q p μ::S)↔∃bv I,Sat h (pt q (.cells 6 (zQ p μ.base bv I μ.forced μ.check) false)::aZ bv μ.b::.arr 1 I (ej μ.cF)::S):=by
 simp only [b8,gN,bQ,fg,cZ]
theorem mc {P:Program}{t e:TypeId}{cs:List V}{i:Nat}{c:V}(s:Sat h S)(hk:getA S k=some (.arr 1 v cs))(hi:cs[i]?=some c)(hu:P.underlying t=some (.slice e))(I:bH P e=some 1):
  ∃id off,indexAddrV P t v (.int .i64 (i:Int))=some (.ptr id off)∧∀t',cm P t'=some false→loadV P h t' (.ptr id off)=some c:=by
 have J:i<cs.length:=(List.getElem?_eq_some_iff.1 hi).1
 obtain ⟨m,r,h1,h2,h3⟩:=s.at hk
 rcases h3.2 with ⟨_,rfl⟩ | ⟨id,n,cap,N,rest,rfl,hg,e1,e2,_⟩
 ·simp at hi
 ·refine ⟨id,i,?_,fun t' ht=>Oc ht (h1 _ _ hg) ?_⟩
  ·simp only [indexAddrV,hu,I,b9]
   rw [show (decide ((0:Int)≤(i:Int))&&decide ((i:Int)<(n:Int)))=true by simp; omega,ag]
   simp
  ·rw [fF,jL J,hi]
theorem FG (I:W told)(s:Sat h (b8 q p μ::S)): Call ⟨Tryz.prog,told⟩ 82 [.ptr q 0] h fun v h'=>v=.int .u64 (μ.base:Int)∧h'=h:=by
 obtain ⟨bv,J,s⟩:=fL.1 s
 exact Call.of_wp (I.free _ rfl) Tryz.func82 rfl rfl (zK 8 rfl (zf rfl (l7 _ _) (zl rfl (s.ld (k:=0) rfl lZ rfl) (zk 2 rfl (WP.ret ⟨aa,_,rfl,rfl,rfl⟩)))))
theorem BF (I:W told)(s:Sat h (b8 q p μ::S)): Call ⟨Tryz.prog,told⟩ 83 [.ptr q 0] h fun v h'=>v=.int .u64 (μ.check:Int)∧h'=h:=by
 obtain ⟨bv,J,s⟩:=fL.1 s
 exact Call.of_wp (I.free _ rfl) Tryz.func83 rfl rfl (zK 8 rfl (zf rfl (KI _ _) (zl rfl (s.ld (k:=0) rfl lZ rfl) (zk 2 rfl (WP.ret ⟨aa,_,rfl,rfl,rfl⟩)))))
theorem A9 (I:W told)(s:Sat h (b8 q p μ::S))(J:μ.base+μ.b.length≤1099511627776): Call ⟨Tryz.prog,told⟩ 43 [.ptr q 0] h fun v h'=>v=.int .u64 ((μ.base:Int)+(μ.b.length:Int))∧h'=h:=by
 obtain ⟨bv,sv,s⟩:=fL.1 s
 refine Call.of_wp (I.free _ rfl) Tryz.func43 rfl rfl (zK 5 rfl (WP.drawn [ai,ai,ai,ai,ai,ai,ai,ai,ai,ai,ai,ai] rfl (by kernel_rfl) (by kernel_rfl) ?_))
 refine zM rfl (zN rfl (zF rfl (l7 _ _) (zL rfl (s.ld (k:=0) rfl lZ rfl) (zM rfl (zN rfl (zF rfl (eM _ _) (zL rfl (s.ld (k:=0) rfl bJ rfl) (zO rfl (aU rfl rfl rfl (a_ aG (s.aE (k:=1) rfl (bg _ _)))) (aB.op rfl rfl rfl (by simp only [isEff,cE]) (cJ rfl (by exact iZ bD cE (fD (by omega) (by omega)))) ?_)))))))))
 refine zO rfl (af rfl rfl (by exact br (fD (by omega) (by omega)))) ?_
 refine zA rfl ?_
 refine aB.nil ⟨⟨aa,aa,aa,aa,aa,aa,aa,aa,aa,aa,aa,aa,aa⟩,?_⟩
 refine WP.ret ⟨aa,_,rfl,?_⟩
 exact ⟨rfl,rfl⟩
theorem Ms (I:W told)(s:Sat h (b8 q p μ::S))(J:μ.base+μ.b.length≤1099511627776)(hf:μ.forced≤μ.b.length): Call ⟨Tryz.prog,told⟩ 129 [.ptr q 0] h fun v h'=>v=.int .u64 ((μ.base:Int)+(μ.forced:Int))∧h'=h:=by
 obtain ⟨bv,sv,s⟩:=fL.1 s
 refine Call.of_wp (I.free _ rfl) Tryz.func129 rfl rfl (zK 5 rfl (WP.drawn [ai,ai,ai,ai,ai,ai,ai,ai,ai,ai,ai] rfl (by kernel_rfl) (by kernel_rfl) ?_))
 refine zM rfl (zN rfl (zF rfl (l7 _ _) (zL rfl (s.ld (k:=0) rfl lZ rfl) (zM rfl (zN rfl (zF rfl (wE _ _) (zL rfl (s.ld (k:=0) rfl dL rfl) (aB.op rfl rfl rfl (by simp only [isEff,cE]) (cJ rfl (by exact iZ bD cE (fD (by omega) (by omega)))) ?_))))))))
 refine zO rfl (af rfl rfl (by exact br (fD (by omega) (by omega)))) ?_
 refine zA rfl ?_
 refine aB.nil ⟨⟨aa,aa,aa,aa,aa,aa,aa,aa,aa,aa,aa,aa⟩,?_⟩
 refine WP.ret ⟨aa,_,rfl,?_⟩
 exact ⟨rfl,rfl⟩
def Split (μ:Lg)(n i:Nat): Prop:=i≤μ.cF.length∧(∀(j s:Nat),j<i→μ.cF[j]?=some s→μ.base+s<n)∧(∀(j s:Nat),i≤j→μ.cF[j]?=some s→n≤μ.base+s)
theorem ES {l:List Nat}(J:l.Pairwise (· < ·)){i j a b:Nat}(I:i<j)(ha:l[i]?=some a)(hb:l[j]?=some b): a<b:=by
 obtain ⟨h1,rfl⟩:=List.getElem?_eq_some_iff.1 ha
 obtain ⟨h2,rfl⟩:=List.getElem?_eq_some_iff.1 hb
 exact List.pairwise_iff_getElem.1 J _ _ h1 h2 I
noncomputable def lfL : Code:=dB [1,1,0,0,0] ((Tryz.f150.body).getD .skip)
theorem OM {bv sv:V}{n:Nat}(hn:n<18446744073709551616)(I:μ.Ok)(s:Sat h (pt q (.cells 6 (zQ p μ.base bv sv μ.forced μ.check) false)::aZ bv μ.b::.arr 1 sv (ej μ.cF)::S)): ∀(fuel lo hi:Nat) (E:List (Nat×V)) (Q:Ex→List (Nat×V)→H→Prop),hi-lo≤fuel→lo≤hi→hi≤μ.cF.length →
  (∀(j s:Nat),j<lo→μ.cF[j]?=some s→μ.base+s<n)→(∀(j s:Nat),hi≤j→μ.cF[j]?=some s→n≤μ.base+s) →
  Has E [(0,.ptr q 0),(1,.int .u64 (n:Int)),(5,.int .i64 (lo:Int)),(6,.int .i64 (hi:Int))]→(∀E' i,Split μ n i→look E' 5=some (.int .i64 (i:Int))→Q (.exit 0) E' h)→WP ⟨Tryz.prog,told⟩ 39 (.loop lfL) E h Q:=by
 have Mt:=I.many
 have Mu:=I.size
 intro fuel
 induction fuel with
 | zero =>
  intro lo hi E Q hf h1 h2 h3 h4 hE hq
  refine WP.loop (WP.has hE (zK 5 rfl (zh rfl (af rfl rfl aT) (by simp; omega) ?_)))
  refine zk 2 rfl (WP.exit ?_)
  have e:lo=hi:=by omega
  exact hq _ lo ⟨by omega,h3,by rw [e]; exact h4⟩ rfl
 | succ fuel ih =>
  intro lo hi E Q hf h1 h2 h3 h4 hE hq
  by_cases bF:lo<hi
  ·skip
   refine WP.loop (WP.has hE (zK 5 rfl (zt rfl (af rfl rfl aT) (by simp; omega) ?_)))
   refine zk 3 rfl (WP.block (zK 4 rfl (zb rfl (by exact br (aC (by omega) (by omega))) ?_)))
   refine zb rfl (YU (by omega)) ?_
   refine zk 3 rfl ?_
   generalize hm:(lo+hi)/2=m
   have uo:lo≤m:=by omega
   have rP:m<hi:=by omega
   obtain ⟨st,J⟩:∃st,μ.cF[m]?=some st:=⟨_,bf (by omega)⟩
   have xu:=I.low st (bC J)
   have hlen:=I.len
   have hc:(ej μ.cF)[m]?=some (.int .i64 (st:Int)):=by simp [ej,J]
   obtain ⟨id,off,e1,e2⟩:=mc (P:=Tryz.prog) s (k:=2) rfl hc eB kW
   refine WP.drawn [ai,ai,ai,ai,ai,ai,ai,ai,ai,ai,ai,ai,ai,ai,ai] rfl (by kernel_rfl) (by kernel_rfl) ?_
   refine zM rfl (zN rfl (zF rfl (l7 _ _) (zL rfl (s.ld (k:=0) rfl lZ rfl) (zM rfl (zN rfl (zF rfl (nX _ _) (zL rfl (s.ld (k:=0) rfl y8 rfl) (zM rfl (zO rfl (dr (r:=.ptr id off) rfl rfl e1) (zL rfl (e2 _ dL) (aB.op rfl rfl rfl (by simp only [isEff,cE]) (cJ rfl (by exact iZ bD cE (fD (by omega) (by omega)))) ?_)))))))))))
   refine zO rfl (af rfl rfl (by exact br (fD (by omega) (by omega)))) ?_
   refine zM rfl ?_
   by_cases rQ:μ.base+st<n
   ·skip
    refine aB.y5 rfl rfl rfl rfl (af rfl rfl aT) (by simp; omega) ?_
    refine aB.nil ⟨⟨aa,aa,aa,aa,aa,aa,aa,aa,aa,aa,aa,aa,aa,aa,aa,aa⟩,?_⟩
    refine zK 3 rfl (zb rfl (by exact br (aC (by omega) (by omega))) ?_)
    refine za rfl (zv ?_)
    refine ih (m+1) hi _ Q (by omega) (by omega) h2 (fun j s hj hs => ?_) h4 ⟨rfl,rfl,rfl,rfl,aa⟩ hq
    by_cases WY:j=m
    ·subst WY; rw [J] at hs; injection hs with hs; omega
    ·have:=ES I.ER (show j<m by omega) hs J; omega
   ·skip
    refine aB.oD rfl rfl rfl rfl (af rfl rfl aT) (by simp; omega) ?_
    refine aB.nil ⟨⟨aa,aa,aa,aa,aa,aa,aa,aa,aa,aa,aa,aa,aa,aa,aa,aa⟩,?_⟩
    refine zj rfl (zr rfl (zk 2 rfl (zv ?_)))
    refine ih lo m _ Q (by omega) uo (by omega) h3 (fun j s hj hs => ?_) ⟨rfl,rfl,rfl,rfl,aa⟩ hq
    by_cases WY:j=m
    ·subst WY; rw [J] at hs; injection hs with hs; omega
    ·have:=ES I.ER (show m<j by omega) J hs; omega
  ·skip
   refine WP.loop (WP.has hE (zK 5 rfl (zh rfl (af rfl rfl aT) (by simp; omega) ?_)))
   refine zk 2 rfl (WP.exit ?_)
   have e:lo=hi:=by omega
   exact hq _ lo ⟨by omega,h3,by rw [e]; exact h4⟩ rfl
theorem UI (hT:W told){n:Nat}(s:Sat h (b8 q p μ::S))(I:μ.Ok)(hn:n<18446744073709551616): Call ⟨Tryz.prog,told⟩ 150 [.ptr q 0,.int .u64 (n:Int)] h fun v h'=>h'=h∧∃i,Split μ n i∧v=.int .i64 (i:Int):=by
 obtain ⟨bv,sv,s⟩:=fL.1 s
 refine Call.of_wp (hT.free _ rfl) Tryz.func150 rfl rfl (zK 5 rfl (WP.drawn [ai,ai,ai,ai,ai,ai,ai] rfl (by kernel_rfl) (by kernel_rfl) ?_))
 refine zM rfl (zN rfl (zF rfl (nX _ _) (zL rfl (s.ld (k:=0) rfl y8 rfl) (zO rfl (aU rfl rfl rfl (s.iB (n:=μ.cF.length) (j:=2) rfl (by rw [iD,c9]) (by decide) eB)) ?_))))
 refine zA rfl (zA rfl ?_)
 refine aB.nil ⟨⟨aa,aa,aa,aa,aa,aa,aa,aa⟩,?_⟩
 refine zw (WP.block ?_)
 refine OM hn I s μ.cF.length 0 μ.cF.length _ _ (by omega) (by omega) (by omega) (fun j s hj _=>by omega) (fun j s hj hs => ?_) ⟨rfl,rfl,rfl,rfl,aa⟩ (fun E' i hi J => ?_)
 ·rw [mU (by omega)] at hs; cases hs
 ·skip
  exact WP.has (F:=[(5,.int .i64 (i:Int))]) ⟨J,aa⟩ (zK 5 rfl (WP.ret ⟨aa,_,rfl,rfl,i,hi,rfl⟩))
def Lg.hasB (μ:Lg)(n:Nat): Bool:=μ.cF.any fun s=>decide (μ.base+s=n)
theorem Split.has {n i:Nat}(hs:Split μ n i)(hr:μ.cF.Pairwise (· < ·)): μ.hasB n=true↔∃s,μ.cF[i]?=some s∧μ.base+s=n:=by
 rw [Lg.hasB,List.any_eq_true]
 constructor
 ·rintro ⟨s,h1,I⟩
  have I:μ.base+s=n:=by simpa using I
  obtain ⟨j,J⟩:=Av h1
  have tQ:i≤j:=by
   rcases lR j i with h | h
   ·have:=hs.2.1 j s h J; omega
   ·exact h
  by_cases he:i=j
  ·subst he; exact ⟨s,J,I⟩
  ·have ZQ:=(List.getElem?_eq_some_iff.1 J).1
   have hi:μ.cF[i]?=some (μ.cF[i]'(by omega)):=bf _
   have h3:=hs.2.2 i _ (aD _) hi
   have h4:=ES hr (show i<j by omega) hi J
   omega
 ·rintro ⟨s,h1,I⟩
  exact ⟨s,bC h1,by simpa using I⟩
theorem ON {i st:Nat}(I:μ.cF[i]?=some st): (ej μ.cF)[i]?=some (.int .i64 (st:Int)):=by simp [ej,I]
theorem KS (hT:W told){n:Nat}(s:Sat h (b8 q p μ::S))(I:μ.Ok)(hn:n<18446744073709551616): Call ⟨Tryz.prog,told⟩ 136 [.ptr q 0,.int .u64 (n:Int)] h fun v h'=>h'=h∧v=.bool (μ.hasB n):=by
 have s0:=s
 obtain ⟨bv,sv,s⟩:=fL.1 s
 have Mt:=I.many
 have Mu:=I.size
 refine Call.of_wp (hT.free _ rfl) Tryz.func136 rfl rfl (zK 8 rfl (zc rfl (UI hT s0 I hn) ?_))
 rintro v h' ⟨rfl,i,hi,rfl⟩
 have hh:=hi.has I.ER
 refine zk 3 rfl (WP.drawn [ai,ai,ai,ai,ai,ai,ai,ai,ai,ai,ai,ai,ai,ai,ai,ai,ai,ai,ai,ai,ai,ai,ai,ai,ai] rfl (by kernel_rfl) (by kernel_rfl) ?_)
 refine zM rfl (zM rfl (zN rfl (zF rfl (nX _ _) (zL rfl (s.ld (k:=0) rfl y8 rfl) (zO rfl (aU rfl rfl rfl (s.iB (n:=μ.cF.length) (j:=2) rfl (by rw [iD,c9]) (by decide) eB)) ?_)))))
 by_cases HJ:i<μ.cF.length
 ·skip
  refine aB.y5 rfl rfl rfl rfl (af rfl rfl aT) (by simp; omega) ?_
  obtain ⟨st,J⟩:∃st,μ.cF[i]?=some st:=⟨_,bf HJ⟩
  have xu:=I.low st (bC J)
  obtain ⟨id,off,e1,e2⟩:=mc (P:=Tryz.prog) s (k:=2) rfl (ON J) eB kW
  refine zM rfl (zM rfl (zN rfl (zF rfl (l7 _ _) (zL rfl (s.ld (k:=0) rfl lZ rfl) (zM rfl (zN rfl (zF rfl (nX _ _) (zL rfl (s.ld (k:=0) rfl y8 rfl) (zM rfl (zO rfl (dr (r:=.ptr id off) rfl rfl e1) (zL rfl (e2 _ dL) (aB.op rfl rfl rfl (by simp only [isEff,cE]) (cJ rfl (by exact iZ bD cE (fD (by omega) (by omega)))) ?_))))))))))))
  refine zO rfl (af rfl rfl (by exact br (fD (by omega) (by omega)))) ?_
  refine zM rfl ?_
  by_cases he:μ.base+st=n
  ·skip
   refine aB.y5 rfl rfl rfl rfl (af rfl rfl eA) (by simp; omega) ?_
   refine zO rfl (qW rfl rfl) (zA rfl ?_)
   refine aB.nil ⟨⟨aa,aa,aa,aa,aa,aa,aa,aa,aa,aa,aa,aa,aa,aa,aa,aa,aa,aa,aa,aa,aa,aa,aa,aa,aa,aa⟩,?_⟩
   refine WP.ret ⟨aa,_,rfl,?_⟩
   exact ⟨rfl,by rw [hh.2 ⟨st,J,he⟩]⟩
  ·skip
   refine aB.oD rfl rfl rfl rfl (af rfl rfl eA) (by simp; omega) ?_
   refine zO rfl (qW rfl rfl) (zA rfl ?_)
   refine aB.nil ⟨⟨aa,aa,aa,aa,aa,aa,aa,aa,aa,aa,aa,aa,aa,aa,aa,aa,aa,aa,aa,aa,aa,aa,aa,aa,aa,aa⟩,?_⟩
   refine WP.ret ⟨aa,_,rfl,?_⟩
   refine ⟨rfl,?_⟩
   cases hb:μ.hasB n with
   | false=>rfl
   | true =>
    obtain ⟨s',h1,h2⟩:=hh.1 hb
    rw [J] at h1; have:=bk h1; omega
 ·skip
  refine aB.oD rfl rfl rfl rfl (af rfl rfl aT) (by simp; omega) ?_
  refine zM rfl (aB.no (e:=false) rfl rfl rfl rfl (aB.no (e:=false) rfl rfl rfl rfl (aB.no (e:=false) rfl rfl rfl rfl (aB.no (e:=false) rfl rfl rfl rfl (aB.no (e:=false) rfl rfl rfl rfl (aB.no (e:=false) rfl rfl rfl rfl (aB.no (e:=false) rfl rfl rfl rfl (aB.no (e:=false) rfl rfl rfl rfl (aB.no (e:=false) rfl rfl rfl rfl (aB.no (e:=false) rfl rfl rfl rfl (aB.no (e:=false) rfl rfl rfl rfl (aB.no (e:=false) rfl rfl rfl (by simp only [isEff,cE]) ?_))))))))))))
  refine aB.no (e:=false) rfl rfl rfl rfl (aB.no (e:=false) rfl rfl rfl rfl (aB.no (e:=false) rfl rfl rfl rfl (zO rfl (kj rfl rfl) (zA rfl ?_))))
  refine aB.nil ⟨⟨aa,aa,aa,aa,aa,aa,aa,aa,aa,aa,aa,aa,aa,aa,aa,aa,aa,aa,aa,aa,aa,aa,aa,aa,aa,aa⟩,?_⟩
  refine WP.ret ⟨aa,_,rfl,?_⟩
  refine ⟨rfl,?_⟩
  cases hb:μ.hasB n with
  | false=>rfl
  | true =>
   obtain ⟨s',h1,h2⟩:=hh.1 hb
   have:=(List.getElem?_eq_some_iff.1 h1).1
   omega
theorem OO (hT:W told){n:Nat}{δ:Dk}(s:Sat h (b8 q p μ::aR p δ::S))(I:μ.Ok)(hf:δ.aP<4294967296): Call ⟨Tryz.prog,told⟩ 79 [.ptr q 0,.int .u64 (n:Int)] h fun v h' =>
  (n<μ.base+μ.forced∧v=.int .i64 0∧Sat h' (b8 q p μ::aR p δ::S)) ∨
  (μ.base+μ.forced≤n∧δ.dead=true∧v=.int .i64 9∧Sat h' (b8 q p μ::aR p δ::S)) ∨
  (μ.base+μ.forced≤n∧δ.dead=false∧δ.aP=0∧v=.int .i64 9∧Sat h' (b8 q p μ::aR p δ.die::S)) ∨
  (μ.base+μ.forced≤n∧δ.dead=false∧δ.aP≠0∧v=.int .i64 0∧Sat h' (b8 q p { μ with forced:=μ.b.length }::aR p { δ.c8 with bp:=δ.log.length }::S)):=by
 have Mu:=I.size
 have OP:=I.forced
 have s0:=s
 obtain ⟨bv,sv,s⟩:=fL.1 s
 refine Call.of_wp (hT.free _ rfl) Tryz.func79 rfl rfl (zK 9 rfl (zc rfl (Ms hT s0 I.size I.forced) ?_))
 rintro v h' ⟨rfl,rfl⟩
 by_cases bF:n<μ.base+μ.forced
 ·skip
  refine zt rfl (af rfl rfl aT) (by simp; omega) ?_
  exact zk 6 rfl (WP.ret ⟨aa,_,rfl,.inl ⟨bF,rfl,s0⟩⟩)
 ·have hle:μ.base+μ.forced≤n:=by omega
  refine zh rfl (af rfl rfl aT) (by simp; omega) ?_
  refine zk 8 rfl (zf rfl (KH _ _) (zl rfl (s.ld (k:=0) rfl qZ rfl) (zc rfl (FE hT (s0.ae [1]) hf) ?_)))
  rintro v h (⟨J,rfl,s⟩ | ⟨J,h0,rfl,s⟩ | ⟨J,h0,rfl,s⟩)
  ·refine aA.op rfl rfl rfl (eT rfl) ?_
   exact zk 4 rfl (zt rfl (af rfl rfl aN) (rfl) (zk 7 rfl (WP.ret ⟨aa,_,rfl,.inr (.inl ⟨hle,J,rfl,s.ae [1]⟩)⟩)))
  ·skip
   exact zk 5 rfl (zt rfl (af rfl rfl aN) (rfl) (zk 7 rfl (WP.ret ⟨aa,_,rfl,.inr (.inr (.inl ⟨hle,J,h0,rfl,s.ae [1]⟩))⟩)))
  ·skip
   obtain ⟨bv,sv,s⟩:=fL.1 (s.ae [1])
   refine zk 5 rfl (zh rfl (af rfl rfl aN) (rfl) (zk 8 rfl (zf rfl (eM _ _) (zl rfl (s.ld (k:=0) rfl bJ rfl) (zo rfl (aU rfl rfl rfl (a_ aG (s.aE (k:=1) rfl (bg _ _)))) (zn rfl (zf rfl (wE _ _) ?_)))))))
   refine zS rfl (by exact s.ey (k:=0) rfl kW rfl (by decide) rfl rfl) (fun h s => ?_)
   exact zk 5 rfl (WP.ret ⟨aa,_,rfl,.inr (.inr (.inr ⟨hle,J,h0,rfl,fL.2 ⟨bv,sv,s⟩⟩))⟩)
end
end Go.Proofs.YtefepnnfphdkpaaGreat.Am
