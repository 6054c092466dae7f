/- AtomSame: a part of its proof; conditions: its statement's. -/
import Derived.Test.YtconhghphklfjaaGreatS19
set_option linter.defProp false
namespace Go.Proofs.YtconhghphklfjaaGreat.Am
open Go
def GY:=@Tryz.underlying151
section
variable {told:dF} {h:H} {S:List ax} {X:ax} {k:Nat} {v:V} {l:List Nat}
theorem vU (I:W told){n z:Nat}(s:Sat h (bG v l::S))(J:z≤8)(U:l.length+z≤140737488355328):
  Call ⟨Tryz.prog,told⟩ 67 [v,.int .i64 (z:Int),.int .u64 (n:Int)] h fun r h'=>Sat h' (bG r (l++le z n)::S) :=
 (Nl I.RT s.wf (s.buf (k:=0) rfl) J U).mono fun _ _ ⟨h1,h2,h3⟩=>s.An h2 h1 h3
theorem Ns (hT:W told){a z n:Nat}(s:Sat h (bG v l::S))(hz:1≤z)(ER:z≤8)(U:a+z≤l.length)(lH:l.length≤65536):
  Call ⟨Tryz.prog,told⟩ 130 [.agg [v],.int .i64 (a:Int),.int .i64 (z:Int),.int .u64 (n:Int)] h fun r h'=>r=.bD []∧Sat h' (bG v (cZ l a (le z n))::S):=by
 obtain ⟨I,_,cap,_,rfl,_⟩:=s.ku (by omega)
 refine Call.of_wp (hT.free _ rfl) Tryz.func130 rfl rfl (zg rfl ?_)
 refine aB.cO s rfl rfl rfl (gw rfl rfl) (fun p4 h s => ?_)
 refine zv ?_
 have s0:=s
 refine WP.drawn [some (0,2),some (0,2),some (0,2),some (0,2),some (0,2),some (0,2),some (0,2),ai,ai,ai,ai] rfl (by kernel_rfl) (by kernel_rfl) ?_
 refine zF rfl (pI _ _) (zL rfl (s.ld (k:=0) rfl bL rfl) (zM rfl (zM rfl (zM rfl (zO rfl (ag rfl rfl (by exact bO (aT (by omega) (by omega)))) ?_)))))
 have ez:((a:Int)+(z:Int)).toNat=a+z:=by omega
 have ea:((a:Int)).toNat=a:=by omega
 refine zO rfl (cC (p:=some (.int .i64 (a:Int))) (q:=some (.int .i64 ((a:Int)+(z:Int)))) (m:=none) (p':=some a) (q':=some (a+z)) (m':=none) rfl rfl rfl rfl (by rw [fG (by omega),ea]) (by rw [fG (by omega),ez]) rfl (iF (s.buf (k:=1) rfl).view (by omega) U).1) ?_
 refine zM rfl (zM rfl (aA.any rfl rfl rfl rfl (OpR.call rfl rfl rfl rfl (vU hT s.vQ ER (by simp; omega))) ?_))
 intro u h s
 have s:=s.ae [1,1,0]
 dsimp only [List.nil_append,V.cells,List.length_cons,List.length_nil,Nat.reduceAdd,bringA,getA,aU] at s
 have s1:=s
 refine aA.any rfl rfl rfl rfl (OpR.Xd rfl (s.ae [1,1]) (bI _ _) rfl rfl rfl rfl (by omega) U (by simp [dH]; omega)) ?_
 intro r h s
 have hs:∃q c,slR (V.sl I 0 l.length cap) a (a+z)=.sl I q (a+z-a) c:=by
  cases cap with
  | exact c=>exact ⟨_,_,rfl⟩
  | rest e alt=>exact ⟨_,_,rfl⟩
 obtain ⟨q,c,hs⟩:=hs
 have J:(slR (V.sl I 0 l.length cap) a (a+z)).beq (slR (V.sl I 0 l.length cap) a (a+z))=true:=by rw [hs]; exact Cb _ _ _ _
 refine aA.nil ⟨⟨fun _ _=>.inr ⟨rfl,⟨_,jv rfl (pI _ _)⟩,aW _ rfl⟩,dP (.inr ⟨rfl,⟨_,aV rfl (s0.ld (k:=0) rfl bL rfl)⟩,aW _ rfl⟩) (.inr ⟨rfl,⟨_,aV rfl (s1.ld (k:=0) rfl bL rfl)⟩,aW _ rfl⟩),fun _ _=>.inr ⟨rfl,⟨_,bk rfl⟩,aW _ rfl⟩,fun _ _=>.inr ⟨rfl,⟨_,bk rfl⟩,aW _ rfl⟩,fun _ _=>.inr ⟨rfl,⟨_,bk rfl⟩,aW _ rfl⟩,fun _ _=>.inr ⟨rfl,⟨_,ag rfl rfl (by exact bO (aT (by omega) (by omega)))⟩,aW _ rfl⟩,dP (.inr ⟨rfl,⟨_,cC (p:=some (.int .i64 (a:Int))) (q:=some (.int .i64 ((a:Int)+(z:Int)))) (m:=none) (p':=some a) (q':=some (a+z)) (m':=none) rfl rfl rfl rfl (by rw [fG (by omega),ea]) (by rw [fG (by omega),ez]) rfl (iF (s0.buf (k:=1) rfl).view (by omega) U).1⟩,J⟩) (.inr ⟨rfl,⟨_,cC (p:=some (.int .i64 (a:Int))) (q:=some (.int .i64 ((a:Int)+(z:Int)))) (m:=none) (p':=some a) (q':=some (a+z)) (m':=none) rfl rfl rfl rfl (by rw [fG (by omega),ea]) (by rw [fG (by omega),ez]) rfl (iF (s1.buf (k:=1) rfl).view (by omega) U).1⟩,J⟩),aa,aa,aa,aa,aa⟩,?_⟩
 refine ⟨aa,_,rfl,rfl,?_⟩
 rw [show a+z-a=z by omega,fI (by rw [dH]; omega)] at s
 exact (s.del 1).del 1
theorem Cw (U:W told)(s:Sat h (X::S))(hX:cR X (cV v l))(J:l.length<9223372036854775808):
  Call ⟨Tryz.prog,told⟩ 82 [v] h fun r h'=>Sat h' (X::S)∧((bU l=true∧r=.bD [.agg [v],.int .i64 0])∨(bU l=false∧r=.bD [.agg [.bA],.int .i64 4])):=by
 have hv:=s.aG (k:=0) rfl hX
 refine Call.of_wp (U.free _ rfl) Tryz.func82 rfl rfl (zg rfl ?_)
 refine aB.cO s rfl rfl rfl (cH oD) (fun p2 h s => ?_)
 refine zk 6 rfl (zc rfl (JZ U (s.ae [1]) hX J) ?_)
 rintro r h' ⟨rfl,s⟩
 cases hg:bU l with
 | true =>
  have I:1≤l.length:=by
   have:l.length=512:=by simp only [bU,aY,eA] at hg; exact hg.1
   omega
  obtain ⟨pi,po,pc,rfl⟩:=kx hv I
  refine zo rfl (dA rfl rfl) (zk 6 rfl (zo rfl (cX rfl (by rw [Cj]; rfl)) ?_))
  refine zS rfl (s.gX (j:=1) rfl dV rfl rfl) (fun h s => ?_)
  refine zk 2 rfl ?_
  refine WP.ret ⟨aa,_,FI rfl (s.fE (k:=1) rfl gA dV) rfl,?_⟩
  exact ⟨s.del 1,.inl ⟨rfl,rfl⟩⟩
 | false =>
  refine zo rfl (dA rfl rfl) (zk 4 rfl (zo rfl (cX rfl (by rw [Cj]; rfl)) ?_))
  refine zS rfl (s.gX (j:=1) rfl dV rfl rfl) (fun h s => ?_)
  refine zk 2 rfl ?_
  refine WP.ret ⟨aa,_,FI rfl (s.fE (k:=1) rfl gA dV) rfl,?_⟩
  exact ⟨s.del 1,.inr ⟨rfl,rfl⟩⟩
theorem fq (I:bU l=true): l.length=512:=by simp only [bU,aY,eA] at I; exact I.1
theorem Nt (hT:W told)(s:Sat h (X::S))(J:cR X (cV v l))(U:l.length<9223372036854775808):
  Call ⟨Tryz.prog,told⟩ 129 [v] h fun r h'=>(bU l=true∧∃u,r=.bD [.agg [u],.int .i64 0]∧Sat h' (bG u l::X::S))∨(bU l=false∧r=.bD [.agg [.bA],.int .i64 4]∧Sat h' (X::S)):=by
 have hv:=s.aG (k:=0) rfl J
 refine Call.of_wp (hT.free _ rfl) Tryz.func129 rfl rfl (zg rfl ?_)
 refine aB.cO s rfl rfl rfl (cH oD) (fun p2 h s => ?_)
 refine zk 5 rfl (zc rfl (Cw hT (s.ae [1]) J U) ?_)
 rintro r h' ⟨s,(⟨I,rfl⟩ | ⟨I,rfl⟩)⟩
 ·have ZM:=fq I
  obtain ⟨pi,po,pc,rfl⟩:=kx hv (by omega)
  refine zk 3 rfl ?_
  refine aB.cO s rfl rfl rfl (cH oD) (fun p4 h s => ?_)
  refine zS rfl (s.gX (j:=0) rfl dV rfl rfl) (fun h s => ?_)
  refine zk 6 rfl (zh rfl (ag rfl rfl aX) (rfl) (zk 4 rfl ?_))
  have s0:=s
  refine WP.drawn [ai,ai,ai,ai,some (0,2),some (0,2),ai,ai,ai,ai] rfl (by kernel_rfl) (by kernel_rfl) ?_
  refine zF rfl (pI _ _) (zL rfl (s.ld (k:=0) rfl bL rfl) (zO rfl (a_ rfl rfl rfl (pL rfl aS)) (aA.any rfl rfl rfl rfl (OpR.vR rfl s rfl rfl rfl rfl (by omega)) ?_)))
  intro u h s
  have s:=s.ae [1,1,1,0]
  have s1:=s
  refine zF rfl (pI _ _) (zL rfl (s.ld (k:=0) rfl bL rfl) (aA.any rfl rfl rfl rfl (OpR.oG rfl (s.ae [3,1]) J rfl rfl rfl rfl (by simp; omega)) ?_))
  intro u2 h s
  rw [cU] at s
  obtain ⟨xP,_,cap,_,rfl,_⟩:=s.ku (by omega)
  have s2:=s
  refine zO rfl (cX rfl (by rw [Cj]; rfl)) ?_
  refine aA.gV rfl rfl rfl (OpR.eU rfl rfl rfl (s.gX (j:=3) rfl dV rfl rfl)) ?_
  rintro w h ⟨rfl,s⟩
  have s3:=s
  refine zA rfl ?_
  refine aA.nil ⟨⟨aa,aa,aa,aa,fun _ _=>.inr ⟨rfl,⟨_,jv rfl (pI _ _)⟩,aW _ rfl⟩,dP (.inr ⟨rfl,⟨_,aV rfl (s0.ld (k:=0) rfl bL rfl)⟩,aW _ rfl⟩) (.inr ⟨rfl,⟨_,aV rfl (s1.ld (k:=0) rfl bL rfl)⟩,aW _ rfl⟩),aa,aa,aa,aa,aa⟩,?_⟩
  refine WP.ret ⟨aa,_,FI rfl (s.fE (k:=3) rfl gA dV) rfl,?_⟩
  exact .inl ⟨I,_,rfl,(s.del 2).del 2⟩
 ·skip
  refine zk 3 rfl ?_
  refine aB.cO s rfl rfl rfl (cH oD) (fun p4 h s => ?_)
  refine zS rfl (s.gX (j:=0) rfl dV rfl rfl) (fun h s => ?_)
  refine zk 6 rfl (zt rfl (ag rfl rfl aX) (rfl) (zk 4 rfl (zo rfl (cX rfl (by rw [Cj]; rfl)) ?_)))
  refine zm rfl ?_
  refine zS rfl (s.gX (j:=2) rfl dV rfl rfl) (fun h s => ?_)
  refine zk 2 rfl ?_
  refine WP.ret ⟨aa,_,FI rfl (s.fE (k:=2) rfl gA dV) rfl,?_⟩
  exact .inr ⟨I,rfl,(s.del 2).del 0⟩
def m4 (l:List Nat)(n:Nat): List Nat:=cZ l 4 (le 8 n)
def cM (l:List Nat)(n:Nat): List Nat:=cZ (m4 l n) 0 (le 4 (yJ 0 ((m4 l n).drop 4)))
theorem wV {n:Nat}(I:l.length=512): (m4 l n).length=512:=by rw [m4,iG (by rw [dH]; omega),I]
theorem J0 (I:W told){n:Nat}(s:Sat h (X::S))(hX:cR X (cV v l))(lH:l.length<9223372036854775808):
  Call ⟨Tryz.prog,told⟩ 98 [v,.int .u64 (n:Int)] h fun r h'=>(bU l=true∧∃u,r=.bD [u,.int .i64 0]∧Sat h' (bG u (cM l n)::X::S))∨(bU l=false∧r=.bD [.bA,.int .i64 4]∧Sat h' (X::S)):=by
 refine Call.of_wp (I.free _ rfl) Tryz.func98 rfl rfl (zK 8 rfl (zc rfl (Nt I s hX lH) ?_))
 rintro r h' (⟨U,u,rfl,s⟩ | ⟨U,rfl,s⟩)
 ·have J:=fq U
  have vV:(m4 l n).length=512:=wV J
  obtain ⟨xP,_,cap,_,rfl,_⟩:=s.ku (by omega)
  refine zk 3 rfl ?_
  refine aB.cO s rfl rfl rfl (cH oD) (fun p6 h s => ?_)
  refine zS rfl (s.gX (j:=0) rfl dV rfl rfl) (fun h s => ?_)
  refine zk 6 rfl (zh rfl (ag rfl rfl aX) (rfl) (zk 5 rfl (zl rfl (s.fE (k:=0) rfl gA dV) (zm rfl (zc rfl (Ns (a:=4) (z:=8) I (s.ae [1]) (by decide) (by decide) (by omega) (by omega)) ?_)))))
  rintro r h' ⟨rfl,s⟩
  have s:=s.ae [1,0]
  have s:Sat _ (_::bG _ (m4 l n)::_):=s
  refine zk 2 rfl ?_
  have s0:=s
  have uk:=(s.buf (k:=1) rfl).view.1
  have ec:(m4 l n).length=l.length:=by omega
  rw [←ec] at *
  refine WP.drawn [some (0,2),ai,ai,ai,ai,ai,ai] rfl (by kernel_rfl) (by kernel_rfl) ?_
  refine zL rfl (s.fE (k:=0) rfl gA dV) (zF rfl (pI _ _) (zL rfl (s.ld (k:=0) rfl bL rfl) (zO rfl (cC (p:=some (.int .i64 4)) (q:=none) (m:=none) (p':=some 4) (q':=none) (m':=none) rfl rfl rfl rfl rfl rfl rfl (ej (s.buf (k:=1) rfl).view (a:=4) (by omega)).1) ?_)))
  refine aA.any rfl rfl rfl rfl (OpR.call rfl rfl rfl rfl (RU I s (k:=1) rfl (nO (bI _ _) (a:=4) (by omega)) (by simp; omega))) ?_
  rintro r h' ⟨rfl,rfl⟩
  have s1:=s
  have hc:=Bt (s:=0) (l:=(m4 l n).drop 4) (by decide) (fun x hx=>uk x (ij hx))
  refine aA.op rfl rfl rfl (by simp only [isEff,cq]) (b8 rfl (by exact jx Tryz.underlying155 cq (eR (by omega) (by omega)))) ?_
  refine aA.any rfl rfl rfl rfl (OpR.call rfl rfl rfl rfl (Ns (a:=0) (z:=4) I (s.ae [1]) (by decide) (by decide) (by omega) (by omega))) ?_
  rintro r h ⟨rfl,s⟩
  have s:=s.ae [1,0]
  refine aA.nil ⟨⟨dP (.inr ⟨rfl,⟨_,aV rfl (s0.fE (k:=0) rfl gA dV)⟩,aW _ rfl⟩) (.inr ⟨rfl,⟨_,aV rfl (s1.fE (k:=0) rfl gA dV)⟩,aW _ rfl⟩),aa,aa,aa,aa,aa,aa,aa⟩,?_⟩
  exact zg rfl (zf rfl (pI _ _) (zl rfl (s.ld (k:=0) rfl bL rfl) (zk 3 rfl (WP.ret ⟨aa,_,rfl,.inl ⟨U,_,rfl,s.drop⟩⟩))))
 ·skip
  refine zk 3 rfl ?_
  refine aB.cO s rfl rfl rfl (cH oD) (fun p6 h s => ?_)
  refine zS rfl (s.gX (j:=0) rfl dV rfl rfl) (fun h s => ?_)
  exact zk 6 rfl (zt rfl (ag rfl rfl aX) (rfl) (zk 8 rfl (WP.ret ⟨aa,_,rfl,.inr ⟨U,rfl,s.drop⟩⟩)))
theorem ZN {P:Program}{E:List (Nat×V)}{d:TypeId}{x:Operand}{r:V}(I:lookO E x=some v)(J:arrPtrV P d v=some r): opE P E h (.sliceToArrayPointer d x)=some (r,h):=by simp only [opE,jU,I,J,bu]
theorem S9 {P:Program}{t:TypeId}{id off n:Nat}{cap:Cap}(I:View h (.sl id off n cap) l)(J:cj P t=some true)(hs:bF P t=some l.length): loadV P h t (.ptr id off)=some (.agg (ofBytes l)):=by
 have:=I.rdN
 obtain ⟨rfl,U⟩:=this
 simp only [loadV,J,hs,U,iY]
theorem Fx : ∀(l m:List Nat),l.length=m.length→intsBeq .u8 (ofBytes l) (ofBytes m)=some (decide (l=m)):=by
 intro l
 induction l with
 | nil=>intro m hm; cases m with
  | nil=>rfl
  | cons x m=>simp at hm
 | cons x l J=>intro m hm; cases m with
  | nil=>simp at hm
  | cons y m =>
   have hi:=J m (by simpa using hm)
   simp only [ofBytes,bH] at hi ⊢
   simp only [intsBeq,ikBeq,iq,ah,hi,nP]
   by_cases I:x=y
   ·subst I; simp
   ·have:¬ ((x:Int)=(y:Int)):=by omega
    simp [this,I]
theorem PT : buildV Tryz.prog 151 []=some (.agg (ofBytes (List.replicate 512 0))):=by kernel_rfl
theorem RV {P:Program}{t e:TypeId}{n:Nat}{x y:Operand}{m:List Nat}(hu:P.underlying t=some (.array n e))(he:P.underlying e=some (.int .u8))(hs:bF P e=some 1)(I:l.length=n)(hm:m.length=n):
  binV P h .eql t x y (.agg (ofBytes l)) (.agg (ofBytes m))=some (.bool (decide (l=m))):=by
 simp only [binV,eqArr,hu,he,hs,dL,I,hm,dc,iq,ah]
 rw [Fx l m (by omega)]
 rfl
def dI (l:List Nat): Int:=if l=List.replicate 512 0 then 0 else if bU l=false then 4 else if eM l 0 4≠yJ 0 (l.drop 4) then 8 else 0
theorem wW (hT:W told)(s:Sat h (X::S))(J:cR X (cV v l))(lH:l.length<9223372036854775808):
  Call ⟨Tryz.prog,told⟩ 46 [v] h fun r h'=>r=.int .i64 (dI l)∧Sat h' (X::S):=by
 have hv:=s.aG (k:=0) rfl J
 have hz:(List.replicate 512 0).length=512:=ff
 -- what follows when the page is no page of noughts
 refine Call.of_wp (hT.free _ rfl) Tryz.func46 rfl rfl (zK 8 rfl (zo rfl (a_ rfl rfl rfl (bh aS (s.aG (k:=0) rfl J))) ?_))
 refine zd rfl (ag rfl rfl bR) ?_ ?_
 ·intro U
  have U:l.length=512:=by simp at U; omega
  obtain ⟨pi,po,pc,rfl⟩:=kx hv (by omega)
  refine zk 2 rfl (zo rfl (ZN (r:=.ptr pi po) rfl (by simp only [arrPtrV,GY]; rw [U]; rfl)) ?_)
  refine zl rfl (S9 hv WZ (by rw [U]; exact WY)) ?_
  refine zo rfl (cX rfl PT) ?_
  by_cases hn:l=List.replicate 512 0
  ·skip
   exact zt rfl (ag rfl rfl (RV GY Tryz.underlying5 Ry U hz)) (decide_eq_true hn) (zk 7 rfl (WP.ret ⟨aa,_,rfl,by rw [dI,aj hn],s⟩))
  ·skip
   refine zh rfl (ag rfl rfl (RV GY Tryz.underlying5 Ry U hz)) (decide_eq_false hn) (zk 7 rfl (zc rfl (Cw hT s J lH) ?_))
   rintro r h' ⟨s,(⟨hg,rfl⟩ | ⟨hg,rfl⟩)⟩
   ·refine aB.op rfl rfl rfl (bk rfl) ?_
    refine zk 2 rfl ?_
    refine aB.cO s rfl rfl rfl (cH oD) (fun p3 h s => ?_)
    dsimp only [V.cells,List.length_cons,List.length_nil,Nat.reduceAdd] at s
    refine zS rfl (s.gX (j:=0) rfl dV rfl rfl) (fun h s => ?_)
    dsimp only [setA] at s
    refine zk 3 rfl (WP.block (zK 3 rfl (zh rfl (ag rfl rfl aX) (rfl) (zk 4 rfl ?_))))
    have s0:=s
    refine WP.drawn [none,none,some (0,2),some (0,2),ai,ai,ai,ai] rfl (by kernel_rfl) (by kernel_rfl) ?_
    refine zL rfl (s.fE (k:=0) rfl gA dV) (aA.any rfl rfl rfl rfl (OpR.call rfl rfl rfl rfl (uh hT s (k:=1) rfl J (by decide) (by decide) (by decide) (by omega) (by omega))) ?_)
    rintro r h' ⟨rfl,s⟩
    have s1:=s
    refine zM rfl (zO rfl (cC (p:=some (.int .i64 4)) (q:=none) (m:=none) (p':=some 4) (q':=none) (m':=none) rfl rfl rfl rfl rfl rfl rfl (ej (s.aG (k:=1) rfl J) (a:=4) (by omega)).1) ?_)
    refine aA.any rfl rfl rfl rfl (OpR.call rfl rfl rfl rfl (RU hT s (k:=1) rfl (nO J (a:=4) (by omega)) (by simp; omega))) ?_
    rintro r h' ⟨rfl,rfl⟩
    have hc:=Bt (s:=0) (l:=l.drop 4) (by decide) (fun x hx=>hv.1 x (ij hx))
    have hs:∃q c,slR (V.sl pi po l.length pc) 4 l.length=.sl pi q (l.length-4) c:=by
     cases pc with
     | exact c=>exact ⟨_,_,rfl⟩
     | rest e alt=>exact ⟨_,_,rfl⟩
    obtain ⟨q,c,hs⟩:=hs
    have ET:(slR (V.sl pi po l.length pc) 4 l.length).beq (slR (V.sl pi po l.length pc) 4 l.length)=true:=by rw [hs]; exact Cb _ _ _ _
    refine aA.op rfl rfl rfl (by simp only [isEff,bE]) (b8 rfl (by exact jx Tryz.underlying155 bE (aT (by omega) (by omega)))) ?_
    by_cases I:eM l 0 4=yJ 0 (l.drop 4)
    ·skip
     refine aA.nh rfl rfl rfl rfl (ag rfl rfl aX) (by simp; exact_mod_cast I) ?_
     refine zA rfl ?_
     refine aA.nil ⟨⟨aa,aa,fun _ _=>.inr ⟨rfl,⟨_,bk rfl⟩,aW _ rfl⟩,dP (.inr ⟨rfl,⟨_,cC (p:=some (.int .i64 4)) (q:=none) (m:=none) (p':=some 4) (q':=none) (m':=none) rfl rfl rfl rfl rfl rfl rfl (ej (s0.aG (k:=1) rfl J) (a:=4) (by omega)).1⟩,ET⟩) (.inr ⟨rfl,⟨_,cC (p:=some (.int .i64 4)) (q:=none) (m:=none) (p':=some 4) (q':=none) (m':=none) rfl rfl rfl rfl rfl rfl rfl (ej (s1.aG (k:=1) rfl J) (a:=4) (by omega)).1⟩,ET⟩),aa,aa,aa,aa,aa⟩,?_⟩
     refine zj rfl (WP.skip (zg rfl (za rfl (zv ?_))))
     refine WP.ret ⟨aa,_,rfl,?_⟩
     exact ⟨by rw [dI,af hn,af (by rw [hg]; decide),af (by simpa using I)],s.drop⟩
    ·skip
     refine aA.qb rfl rfl rfl rfl (ag rfl rfl aX) (by simp; exact_mod_cast I) ?_
     refine zA rfl ?_
     refine aA.nil ⟨⟨aa,aa,fun _ _=>.inr ⟨rfl,⟨_,bk rfl⟩,aW _ rfl⟩,dP (.inr ⟨rfl,⟨_,cC (p:=some (.int .i64 4)) (q:=none) (m:=none) (p':=some 4) (q':=none) (m':=none) rfl rfl rfl rfl rfl rfl rfl (ej (s0.aG (k:=1) rfl J) (a:=4) (by omega)).1⟩,ET⟩) (.inr ⟨rfl,⟨_,cC (p:=some (.int .i64 4)) (q:=none) (m:=none) (p':=some 4) (q':=none) (m':=none) rfl rfl rfl rfl rfl rfl rfl (ej (s1.aG (k:=1) rfl J) (a:=4) (by omega)).1⟩,ET⟩),aa,aa,aa,aa,aa⟩,?_⟩
     exact zK 5 rfl (WP.ret ⟨aa,_,rfl,by rw [dI,af hn,af (by rw [hg]; decide),aj I],s.drop⟩)
   ·skip
    refine zk 3 rfl ?_
    refine aB.cO s rfl rfl rfl (cH oD) (fun p3 h s => ?_)
    refine zS rfl (s.gX (j:=0) rfl dV rfl rfl) (fun h s => ?_)
    exact zk 3 rfl (WP.block (zK 3 rfl (zt rfl (ag rfl rfl aX) (rfl) (zk 8 rfl (WP.ret ⟨aa,_,rfl,by rw [dI,af hn,aj hg],s.drop⟩)))))
 ·intro U
  have U:l.length≠512:=by simp at U; omega
  have hn:l≠List.replicate 512 0:=fun e=>U (by rw [e,hz])
  have hg:bU l=false:=by rw [bU,eB U,eW]
  refine zk 13 rfl (zc rfl (Cw hT s J lH) ?_)
  rintro r h' ⟨s,(⟨RL,rfl⟩ | ⟨_,rfl⟩)⟩
  ·rw [hg] at RL; cases RL
  ·refine aB.op rfl rfl rfl (bk rfl) ?_
   refine zk 2 rfl ?_
   refine aB.cO s rfl rfl rfl (cH oD) (fun p3 h s => ?_)
   refine zS rfl (s.gX (j:=0) rfl dV rfl rfl) (fun h s => ?_)
   exact zk 3 rfl (WP.block (zK 3 rfl (zt rfl (ag rfl rfl aX) (rfl) (zk 8 rfl (WP.ret ⟨aa,_,rfl,by rw [dI,af hn,aj hg],s.drop⟩)))))
theorem rR {i b id off:Nat}(U:View h v l)(hb:l[i]?=some b)(he:indexAddrV Tryz.prog 32 v (.int .i64 (i:Int))=some (.ptr id off)): loadV Tryz.prog h 5 (.ptr id off)=some (.int .u8 (b:Int)):=by
 obtain ⟨I,off',J,e2⟩:=g_ U hb
 rw [he] at J
 have e3:V.ptr id off=V.ptr I off':=bt J
 rw [e3]
 exact e2
theorem S_ (hT:W told)(s:Sat h (X::S))(I:cR X (cV v l))(lH:l.length<9223372036854775808):
  Call ⟨Tryz.prog,told⟩ 127 [v] h fun r h'=>Sat h' (X::S)∧((bU l=true∧r=.bD [.int .i64 (l.getD 12 0:Nat),.int .u64 (eM l 4 8),.int .i64 (eM l 18 4),.int .i64 (eM l 22 4),.int .i64 0]) ∨
   (bU l=false∧r=.bD [.int .i64 0,.int .u64 0,.int .i64 0,.int .i64 0,.int .i64 4])):=by
 have hv:=s.aG (k:=0) rfl I
 refine Call.of_wp (hT.free _ rfl) Tryz.func127 rfl rfl (zK 11 rfl (zc rfl (Cw hT s I lH) ?_))
 rintro r h' ⟨s,(⟨hg,rfl⟩ | ⟨hg,rfl⟩)⟩
 ·have hq:=fq hg
  obtain ⟨pi,po,pc,rfl⟩:=kx hv (by omega)
  have J:l[12]?=some (l[12]'(by omega)):=bg _
  generalize BS:(l[12]'(by omega))=b at J
  have xF:b<256:=hv.1 b (bq J)
  have uj:l.getD 12 0=b:=by rw [ke,J]; rfl
  rw [uj]
  refine zk 3 rfl ?_
  refine aB.cO s rfl rfl rfl (cH oD) (fun p7 h s => ?_)
  refine zS rfl (s.gX (j:=0) rfl dV rfl rfl) (fun h s => ?_)
  refine zk 6 rfl (zh rfl (ag rfl rfl aX) (rfl) (zk 4 rfl ?_))
  have s0:=s
  obtain ⟨id,off,U,e2⟩:=g_ (s.aG (k:=1) rfl I) J
  refine WP.drawn [some (0,4),some (0,4),some (0,4),some (0,4),ai,ai,ai,some (0,2),none,some (0,3),ai,ai,ai,ai,ai,ai] rfl (by kernel_rfl) (by kernel_rfl) ?_
  refine zM rfl (zO rfl (dG (r:=.ptr id off) rfl rfl U) (zL rfl (rR (s.aG (k:=1) rfl I) J U) (aA.op rfl rfl rfl (by simp only [isEff,bE]) (b8 rfl (by exact jx Tryz.underlying5 bE (aT (by omega) (by omega)))) ?_)))
  refine zM rfl (zO rfl (cC (p:=some (.int .i64 4)) (q:=some (.int .i64 12)) (m:=none) (p':=some 4) (q':=some 12) (m':=none) rfl rfl rfl rfl rfl rfl rfl (iF (s.aG (k:=1) rfl I) (a:=4) (b:=12) (by omega) (by omega)).1) ?_)
  refine aA.any rfl rfl rfl rfl (OpR.call rfl rfl rfl rfl (pN hT s (k:=1) rfl (mE I (a:=4) (b:=12) (by omega) (by omega)) (by simp; omega))) ?_
  rintro r h' ⟨rfl,rfl⟩
  have s1:=s
  refine zL rfl (s.fE (k:=0) rfl gA dV) (aA.any rfl rfl rfl rfl (OpR.call rfl rfl rfl rfl (uh hT s (k:=1) rfl I (by decide) (by decide) (by decide) (by omega) (by omega))) ?_)
  rintro r h' ⟨rfl,s⟩
  have s2:=s
  refine zL rfl (s.fE (k:=0) rfl gA dV) (aA.any rfl rfl rfl rfl (OpR.call rfl rfl rfl rfl (uh hT s (k:=1) rfl I (by decide) (by decide) (by decide) (by omega) (by omega))) ?_)
  rintro r h' ⟨rfl,s⟩
  refine zA rfl (zA rfl (zA rfl (zA rfl (zA rfl ?_))))
  refine aA.nil ⟨⟨fun _ _=>.inr ⟨rfl,⟨_,bk rfl⟩,aW _ rfl⟩,fun _ _=>.inr ⟨rfl,⟨_,dG (r:=.ptr id off) rfl rfl U⟩,aW _ rfl⟩,U9 (.inr ⟨rfl,⟨_,aV rfl (rR (s0.aG (k:=1) rfl I) J U)⟩,aW _ rfl⟩) (.inr ⟨rfl,⟨_,aV rfl (rR (s1.aG (k:=1) rfl I) J U)⟩,aW _ rfl⟩) (.inr ⟨rfl,⟨_,aV rfl (rR (s2.aG (k:=1) rfl I) J U)⟩,aW _ rfl⟩) (.inr ⟨rfl,⟨_,aV rfl (rR (s.aG (k:=1) rfl I) J U)⟩,aW _ rfl⟩),fun _ _=>.inr ⟨rfl,⟨_,b8 rfl (by exact jx Tryz.underlying5 bE (aT (by omega) (by omega)))⟩,aW _ rfl⟩,aa,aa,aa,dP (.inr ⟨rfl,⟨_,aV rfl (s0.fE (k:=0) rfl gA dV)⟩,aW _ rfl⟩) (.inr ⟨rfl,⟨_,aV rfl (s1.fE (k:=0) rfl gA dV)⟩,aW _ rfl⟩),aa,vN (.inr ⟨rfl,⟨_,aV rfl (s0.fE (k:=0) rfl gA dV)⟩,aW _ rfl⟩) (.inr ⟨rfl,⟨_,aV rfl (s1.fE (k:=0) rfl gA dV)⟩,aW _ rfl⟩) (.inr ⟨rfl,⟨_,aV rfl (s2.fE (k:=0) rfl gA dV)⟩,aW _ rfl⟩),aa,aa,aa,aa,aa,aa,aa⟩,?_⟩
  refine WP.ret ⟨aa,_,rfl,?_⟩
  exact ⟨s.drop,.inl ⟨hg,rfl⟩⟩
 ·skip
  refine zk 3 rfl ?_
  refine aB.cO s rfl rfl rfl (cH oD) (fun p7 h s => ?_)
  refine zS rfl (s.gX (j:=0) rfl dV rfl rfl) (fun h s => ?_)
  exact zk 6 rfl (zt rfl (ag rfl rfl aX) (rfl) (zk 11 rfl (WP.ret ⟨aa,_,rfl,s.drop,.inr ⟨hg,rfl⟩⟩)))
end
structure Lg where
 base:Nat
 b:List Nat
 bw:List Nat
 forced:Nat
 check:Nat
def gD (l:List Nat): List V:=l.map fun (n:Nat)=>V.int .i64 (n:Int)
theorem j8 (l:List Nat): (gD l).length=l.length:=by simp [gD]
def yM (p base:Nat)(bv I:V)(forced check:Nat): List V:=[.ptr p 0,.int .u64 (base:Int),bv,I,.int .i64 (forced:Int),.int .u64 (check:Int)]
def bf (q p:Nat)(μ:Lg): ax:=xs fun bv:V=>xs fun I:V=>star [pt q (.cells 6 (yM p μ.base bv I μ.forced μ.check) false),bG bv μ.b,.arr 1 I (gD μ.bw)]
structure Lg.Ok (μ:Lg): Prop where
 size:μ.base+μ.b.length≤1099511627776
 many:μ.bw.length≤16777216
 low:∀s∈μ.bw,s<μ.b.length
 wX:μ.bw.Pairwise (· < ·)
 forced:μ.forced≤μ.b.length
 len:μ.b.length≤16777216
 check:μ.check≤1099511627776
theorem Xk {P:Program}{h:H}{t:TypeId}{x y:Operand}{a b:Nat}(I:a+b<4611686018427387904): binV P h .quo t x y (.int .i64 ((a:Int)+(b:Int))) (.int .i64 2)=some (.int .i64 (((a+b)/2:Nat):Int)):=by
 simp only [binV,ikBeq,ah,intV]
 rw [show intBeq 2 0=false from rfl,az,Jw (by omega),aT (by omega) (by omega)]
 congr 2
section
variable {told:dF} {h:H} {S:List ax} {X:ax} {k q p:Nat} {v:V} {l:List Nat} {μ:Lg}
theorem c8 : Sat h (bf q p μ::S)↔∃bv I,Sat h (pt q (.cells 6 (yM p μ.base bv I μ.forced μ.check) false)::bG bv μ.b::.arr 1 I (gD μ.bw)::S):=by
 simp only [bf,gW,dY,fg,cU]
theorem kR {P:Program}{t e:TypeId}{cs:List V}{i:Nat}{c:V}(s:Sat h S)(U:getA S k=some (.arr 1 v cs))(hi:cs[i]?=some c)(hu:P.underlying t=some (.slice e))(I:bF P e=some 1):
  ∃id off,indexAddrV P t v (.int .i64 (i:Int))=some (.ptr id off)∧∀t',cj P t'=some false→loadV P h t' (.ptr id off)=some c:=by
 have J:i<cs.length:=(List.getElem?_eq_some_iff.1 hi).1
 obtain ⟨m,r,h1,h2,h3⟩:=s.at U
 rcases h3.2 with ⟨_,rfl⟩ | ⟨id,n,cap,N,rest,rfl,hg,e1,e2,_⟩
 ·simp at hi
 ·refine ⟨id,i,?_,fun t' ht=>JO ht (h1 _ _ hg) ?_⟩
  ·simp only [indexAddrV,hu,I,cQ]
   rw [show (decide ((0:Int)≤(i:Int))&&decide ((i:Int)<(n:Int)))=true by simp; omega,ah]
   simp
  ·rw [fM,kf J,hi]
theorem uO (I:W told)(s:Sat h (bf q p μ::S)): Call ⟨Tryz.prog,told⟩ 30 [.ptr q 0] h fun v h'=>v=.int .u64 (μ.base:Int)∧h'=h:=by
 obtain ⟨bv,J,s⟩:=c8.1 s
 exact Call.of_wp (I.free _ rfl) Tryz.func30 rfl rfl (zK 8 rfl (zf rfl (gz _ _) (zl rfl (s.ld (k:=0) rfl fX rfl) (zk 2 rfl (WP.ret ⟨aa,_,rfl,rfl,rfl⟩)))))
theorem A3 (I:W told)(s:Sat h (bf q p μ::S)): Call ⟨Tryz.prog,told⟩ 60 [.ptr q 0] h fun v h'=>v=.int .u64 (μ.check:Int)∧h'=h:=by
 obtain ⟨bv,J,s⟩:=c8.1 s
 exact Call.of_wp (I.free _ rfl) Tryz.func60 rfl rfl (zK 8 rfl (zf rfl (pH _ _) (zl rfl (s.ld (k:=0) rfl fX rfl) (zk 2 rfl (WP.ret ⟨aa,_,rfl,rfl,rfl⟩)))))
theorem nQ (I:W told)(s:Sat h (bf q p μ::S))(J:μ.base+μ.b.length≤1099511627776): Call ⟨Tryz.prog,told⟩ 31 [.ptr q 0] h fun v h'=>v=.int .u64 ((μ.base:Int)+(μ.b.length:Int))∧h'=h:=by
 obtain ⟨bv,U,s⟩:=c8.1 s
 refine Call.of_wp (I.free _ rfl) Tryz.func31 rfl rfl (zK 5 rfl (WP.drawn [ai,ai,ai,ai,ai,ai,ai,ai,ai,ai,ai,ai] rfl (by kernel_rfl) (by kernel_rfl) ?_))
 refine zM rfl (zN rfl (zF rfl (gz _ _) (zL rfl (s.ld (k:=0) rfl fX rfl) (zM rfl (zN rfl (zF rfl (eD _ _) (zL rfl (s.ld (k:=0) rfl bL rfl) (zO rfl (a_ rfl rfl rfl (bh aS (s.aG (k:=1) rfl (bI _ _)))) (aA.op rfl rfl rfl (by simp only [isEff,cq]) (b8 rfl (by exact jx bE cq (eR (by omega) (by omega)))) ?_)))))))))
 refine zO rfl (ag rfl rfl (by exact bO (eR (by omega) (by omega)))) ?_
 refine zA rfl ?_
 refine aA.nil ⟨⟨aa,aa,aa,aa,aa,aa,aa,aa,aa,aa,aa,aa,aa⟩,?_⟩
 refine WP.ret ⟨aa,_,rfl,?_⟩
 exact ⟨rfl,rfl⟩
theorem sH (I:W told)(s:Sat h (bf q p μ::S))(J:μ.base+μ.b.length≤1099511627776)(U:μ.forced≤μ.b.length): Call ⟨Tryz.prog,told⟩ 34 [.ptr q 0] h fun v h'=>v=.int .u64 ((μ.base:Int)+(μ.forced:Int))∧h'=h:=by
 obtain ⟨bv,sv,s⟩:=c8.1 s
 refine Call.of_wp (I.free _ rfl) Tryz.func34 rfl rfl (zK 5 rfl (WP.drawn [ai,ai,ai,ai,ai,ai,ai,ai,ai,ai,ai] rfl (by kernel_rfl) (by kernel_rfl) ?_))
 refine zM rfl (zN rfl (zF rfl (gz _ _) (zL rfl (s.ld (k:=0) rfl fX rfl) (zM rfl (zN rfl (zF rfl (pG _ _) (zL rfl (s.ld (k:=0) rfl c7 rfl) (aA.op rfl rfl rfl (by simp only [isEff,cq]) (b8 rfl (by exact jx bE cq (eR (by omega) (by omega)))) ?_))))))))
 refine zO rfl (ag rfl rfl (by exact bO (eR (by omega) (by omega)))) ?_
 refine zA rfl ?_
 refine aA.nil ⟨⟨aa,aa,aa,aa,aa,aa,aa,aa,aa,aa,aa,aa⟩,?_⟩
 refine WP.ret ⟨aa,_,rfl,?_⟩
 exact ⟨rfl,rfl⟩
def Split (μ:Lg)(n i:Nat): Prop:=i≤μ.bw.length∧(∀(j s:Nat),j<i→μ.bw[j]?=some s→μ.base+s<n)∧(∀(j s:Nat),i≤j→μ.bw[j]?=some s→n≤μ.base+s)
theorem DZ {l:List Nat}(J:l.Pairwise (· < ·)){i j a b:Nat}(I:i<j)(U:l[i]?=some a)(hb:l[j]?=some b): a<b:=by
 obtain ⟨h1,rfl⟩:=List.getElem?_eq_some_iff.1 U
 obtain ⟨h2,rfl⟩:=List.getElem?_eq_some_iff.1 hb
 exact List.pairwise_iff_getElem.1 J _ _ h1 h2 I
noncomputable def lfL : Code:=cJ [1,1,0,0,0] ((Tryz.f99.body).getD .skip)
theorem Nu {bv sv:V}{n:Nat}(hn:n<18446744073709551616)(I:μ.Ok)(s:Sat h (pt q (.cells 6 (yM p μ.base bv sv μ.forced μ.check) false)::bG bv μ.b::.arr 1 sv (gD μ.bw)::S)): ∀(fuel lo hi:Nat) (E:List (Nat×V)) (Q:Ex→List (Nat×V)→H→Prop),hi-lo≤fuel→lo≤hi→hi≤μ.bw.length →
  (∀(j s:Nat),j<lo→μ.bw[j]?=some s→μ.base+s<n)→(∀(j s:Nat),hi≤j→μ.bw[j]?=some s→n≤μ.base+s) →
  Has E [(0,.ptr q 0),(1,.int .u64 (n:Int)),(5,.int .i64 (lo:Int)),(6,.int .i64 (hi:Int))]→(∀E' i,Split μ n i→look E' 5=some (.int .i64 (i:Int))→Q (.exit 0) E' h)→WP ⟨Tryz.prog,told⟩ 39 (.loop lfL) E h Q:=by
 have wY:=I.many
 have wZ:=I.size
 intro fuel
 induction fuel with
 | zero =>
  intro lo hi E Q hf h1 h2 h3 h4 hE hq
  refine WP.loop (WP.has hE (zK 5 rfl (zh rfl (ag rfl rfl bx) (by simp; omega) ?_)))
  refine zk 2 rfl (WP.exit ?_)
  have e:lo=hi:=by omega
  exact hq _ lo ⟨by omega,h3,by rw [e]; exact h4⟩ rfl
 | succ fuel ih =>
  intro lo hi E Q hf h1 h2 h3 h4 hE hq
  by_cases bX:lo<hi
  ·skip
   refine WP.loop (WP.has hE (zK 5 rfl (zt rfl (ag rfl rfl bx) (by simp; omega) ?_)))
   refine zk 3 rfl (WP.block (zK 4 rfl (zb rfl (by exact bO (aT (by omega) (by omega))) ?_)))
   refine zb rfl (Xk (by omega)) ?_
   refine zk 3 rfl ?_
   generalize hm:(lo+hi)/2=m
   have xO:lo≤m:=by omega
   have Ul:m<hi:=by omega
   obtain ⟨st,J⟩:∃st,μ.bw[m]?=some st:=⟨_,bg (by omega)⟩
   have Lk:=I.low st (bq J)
   have hlen:=I.len
   have hc:(gD μ.bw)[m]?=some (.int .i64 (st:Int)):=by simp [gD,J]
   obtain ⟨id,off,e1,e2⟩:=kR (P:=Tryz.prog) s (k:=2) rfl hc eu jK
   refine WP.drawn [ai,ai,ai,ai,ai,ai,ai,ai,ai,ai,ai,ai,ai,ai,ai] rfl (by kernel_rfl) (by kernel_rfl) ?_
   refine zM rfl (zN rfl (zF rfl (gz _ _) (zL rfl (s.ld (k:=0) rfl fX rfl) (zM rfl (zN rfl (zF rfl (iS _ _) (zL rfl (s.ld (k:=0) rfl qf rfl) (zM rfl (zO rfl (dG (r:=.ptr id off) rfl rfl e1) (zL rfl (e2 _ c7) (aA.op rfl rfl rfl (by simp only [isEff,cq]) (b8 rfl (by exact jx bE cq (eR (by omega) (by omega)))) ?_)))))))))))
   refine zO rfl (ag rfl rfl (by exact bO (eR (by omega) (by omega)))) ?_
   refine zM rfl ?_
   by_cases uH:μ.base+st<n
   ·skip
    refine aA.qb rfl rfl rfl rfl (ag rfl rfl bx) (by simp; omega) ?_
    refine aA.nil ⟨⟨aa,aa,aa,aa,aa,aa,aa,aa,aa,aa,aa,aa,aa,aa,aa,aa⟩,?_⟩
    refine zK 3 rfl (zb rfl (by exact bO (aT (by omega) (by omega))) ?_)
    refine za rfl (zv ?_)
    refine ih (m+1) hi _ Q (by omega) (by omega) h2 (fun j s hj hs => ?_) h4 ⟨rfl,rfl,rfl,rfl,aa⟩ hq
    by_cases U:j=m
    ·subst U; rw [J] at hs; injection hs with hs; omega
    ·have:=DZ I.wX (show j<m by omega) hs J; omega
   ·skip
    refine aA.nh rfl rfl rfl rfl (ag rfl rfl bx) (by simp; omega) ?_
    refine aA.nil ⟨⟨aa,aa,aa,aa,aa,aa,aa,aa,aa,aa,aa,aa,aa,aa,aa,aa⟩,?_⟩
    refine zj rfl (zr rfl (zk 2 rfl (zv ?_)))
    refine ih lo m _ Q (by omega) xO (by omega) h3 (fun j s hj hs => ?_) ⟨rfl,rfl,rfl,rfl,aa⟩ hq
    by_cases U:j=m
    ·subst U; rw [J] at hs; injection hs with hs; omega
    ·have:=DZ I.wX (show m<j by omega) J hs; omega
  ·skip
   refine WP.loop (WP.has hE (zK 5 rfl (zh rfl (ag rfl rfl bx) (by simp; omega) ?_)))
   refine zk 2 rfl (WP.exit ?_)
   have e:lo=hi:=by omega
   exact hq _ lo ⟨by omega,h3,by rw [e]; exact h4⟩ rfl
theorem D1 (U:W told){n:Nat}(s:Sat h (bf q p μ::S))(I:μ.Ok)(hn:n<18446744073709551616): Call ⟨Tryz.prog,told⟩ 99 [.ptr q 0,.int .u64 (n:Int)] h fun v h'=>h'=h∧∃i,Split μ n i∧v=.int .i64 (i:Int):=by
 obtain ⟨bv,sv,s⟩:=c8.1 s
 refine Call.of_wp (U.free _ rfl) Tryz.func99 rfl rfl (zK 5 rfl (WP.drawn [ai,ai,ai,ai,ai,ai,ai] rfl (by kernel_rfl) (by kernel_rfl) ?_))
 refine zM rfl (zN rfl (zF rfl (iS _ _) (zL rfl (s.ld (k:=0) rfl qf rfl) (zO rfl (a_ rfl rfl rfl (s.iH (n:=μ.bw.length) (j:=2) rfl (by rw [j8,dO]) (by decide) eu)) ?_))))
 refine zA rfl (zA rfl ?_)
 refine aA.nil ⟨⟨aa,aa,aa,aa,aa,aa,aa,aa⟩,?_⟩
 refine zw (WP.block ?_)
 refine Nu hn I s μ.bw.length 0 μ.bw.length _ _ (by omega) (by omega) (by omega) (fun j s hj _=>by omega) (fun j s hj hs => ?_) ⟨rfl,rfl,rfl,rfl,aa⟩ (fun E' i hi J => ?_)
 ·rw [oS (by omega)] at hs; cases hs
 ·skip
  exact WP.has (F:=[(5,.int .i64 (i:Int))]) ⟨J,aa⟩ (zK 5 rfl (WP.ret ⟨aa,_,rfl,rfl,i,hi,rfl⟩))
def Lg.hasB (μ:Lg)(n:Nat): Bool:=μ.bw.any fun s=>decide (μ.base+s=n)
theorem Split.has {n i:Nat}(hs:Split μ n i)(hr:μ.bw.Pairwise (· < ·)): μ.hasB n=true↔∃s,μ.bw[i]?=some s∧μ.base+s=n:=by
 rw [Lg.hasB,sQ]
 constructor
 ·rintro ⟨s,U,I⟩
  have I:μ.base+s=n:=by simpa using I
  obtain ⟨j,J⟩:=zQ U
  have tM:i≤j:=by
   rcases qN j i with h | h
   ·have:=hs.2.1 j s h J; omega
   ·exact h
  by_cases he:i=j
  ·subst he; exact ⟨s,J,I⟩
  ·have Yh:=(List.getElem?_eq_some_iff.1 J).1
   have hi:μ.bw[i]?=some (μ.bw[i]'(by omega)):=bg _
   have h3:=hs.2.2 i _ (aL _) hi
   have h4:=DZ hr (show i<j by omega) hi J
   omega
 ·rintro ⟨s,U,I⟩
  exact ⟨s,bq U,by simpa using I⟩
theorem uP {i st:Nat}(I:μ.bw[i]?=some st): (gD μ.bw)[i]?=some (.int .i64 (st:Int)):=by simp [gD,I]
theorem Az (hT:W told){n:Nat}(s:Sat h (bf q p μ::S))(I:μ.Ok)(hn:n<18446744073709551616): Call ⟨Tryz.prog,told⟩ 56 [.ptr q 0,.int .u64 (n:Int)] h fun v h'=>h'=h∧v=.bool (μ.hasB n):=by
 have s0:=s
 obtain ⟨bv,sv,s⟩:=c8.1 s
 have wY:=I.many
 have wZ:=I.size
 refine Call.of_wp (hT.free _ rfl) Tryz.func56 rfl rfl (zK 8 rfl (zc rfl (D1 hT s0 I hn) ?_))
 rintro v h' ⟨rfl,i,hi,rfl⟩
 have hh:=hi.has I.wX
 refine zk 3 rfl (WP.drawn [ai,ai,ai,ai,ai,ai,ai,ai,ai,ai,ai,ai,ai,ai,ai,ai,ai,ai,ai,ai,ai,ai,ai,ai,ai] rfl (by kernel_rfl) (by kernel_rfl) ?_)
 refine zM rfl (zM rfl (zN rfl (zF rfl (iS _ _) (zL rfl (s.ld (k:=0) rfl qf rfl) (zO rfl (a_ rfl rfl rfl (s.iH (n:=μ.bw.length) (j:=2) rfl (by rw [j8,dO]) (by decide) eu)) ?_)))))
 by_cases Cq:i<μ.bw.length
 ·skip
  refine aA.qb rfl rfl rfl rfl (ag rfl rfl bx) (by simp; omega) ?_
  obtain ⟨st,J⟩:∃st,μ.bw[i]?=some st:=⟨_,bg Cq⟩
  have Lk:=I.low st (bq J)
  obtain ⟨id,off,e1,e2⟩:=kR (P:=Tryz.prog) s (k:=2) rfl (uP J) eu jK
  refine zM rfl (zM rfl (zN rfl (zF rfl (gz _ _) (zL rfl (s.ld (k:=0) rfl fX rfl) (zM rfl (zN rfl (zF rfl (iS _ _) (zL rfl (s.ld (k:=0) rfl qf rfl) (zM rfl (zO rfl (dG (r:=.ptr id off) rfl rfl e1) (zL rfl (e2 _ c7) (aA.op rfl rfl rfl (by simp only [isEff,cq]) (b8 rfl (by exact jx bE cq (eR (by omega) (by omega)))) ?_))))))))))))
  refine zO rfl (ag rfl rfl (by exact bO (eR (by omega) (by omega)))) ?_
  refine zM rfl ?_
  by_cases he:μ.base+st=n
  ·skip
   refine aA.qb rfl rfl rfl rfl (ag rfl rfl bR) (by simp; omega) ?_
   refine zO rfl (kP rfl rfl) (zA rfl ?_)
   refine aA.nil ⟨⟨aa,aa,aa,aa,aa,aa,aa,aa,aa,aa,aa,aa,aa,aa,aa,aa,aa,aa,aa,aa,aa,aa,aa,aa,aa,aa⟩,?_⟩
   refine WP.ret ⟨aa,_,rfl,?_⟩
   exact ⟨rfl,by rw [hh.2 ⟨st,J,he⟩]⟩
  ·skip
   refine aA.nh rfl rfl rfl rfl (ag rfl rfl bR) (by simp; omega) ?_
   refine zO rfl (kP rfl rfl) (zA rfl ?_)
   refine aA.nil ⟨⟨aa,aa,aa,aa,aa,aa,aa,aa,aa,aa,aa,aa,aa,aa,aa,aa,aa,aa,aa,aa,aa,aa,aa,aa,aa,aa⟩,?_⟩
   refine WP.ret ⟨aa,_,rfl,?_⟩
   refine ⟨rfl,?_⟩
   cases hb:μ.hasB n with
   | false=>rfl
   | true =>
    obtain ⟨s',U,h2⟩:=hh.1 hb
    rw [J] at U; have:=bt U; omega
 ·skip
  refine aA.nh rfl rfl rfl rfl (ag rfl rfl bx) (by simp; omega) ?_
  refine zM rfl (aA.no (e:=false) rfl rfl rfl rfl (aA.no (e:=false) rfl rfl rfl rfl (aA.no (e:=false) rfl rfl rfl rfl (aA.no (e:=false) rfl rfl rfl rfl (aA.no (e:=false) rfl rfl rfl rfl (aA.no (e:=false) rfl rfl rfl rfl (aA.no (e:=false) rfl rfl rfl rfl (aA.no (e:=false) rfl rfl rfl rfl (aA.no (e:=false) rfl rfl rfl rfl (aA.no (e:=false) rfl rfl rfl rfl (aA.no (e:=false) rfl rfl rfl rfl (aA.no (e:=false) rfl rfl rfl (by simp only [isEff,cq]) ?_))))))))))))
  refine aA.no (e:=false) rfl rfl rfl rfl (aA.no (e:=false) rfl rfl rfl rfl (aA.no (e:=false) rfl rfl rfl rfl (zO rfl (kr rfl rfl) (zA rfl ?_))))
  refine aA.nil ⟨⟨aa,aa,aa,aa,aa,aa,aa,aa,aa,aa,aa,aa,aa,aa,aa,aa,aa,aa,aa,aa,aa,aa,aa,aa,aa,aa⟩,?_⟩
  refine WP.ret ⟨aa,_,rfl,?_⟩
  refine ⟨rfl,?_⟩
  cases hb:μ.hasB n with
  | false=>rfl
  | true =>
   obtain ⟨s',U,h2⟩:=hh.1 hb
   have:=(List.getElem?_eq_some_iff.1 U).1
   omega
theorem Nv (hT:W told){n:Nat}(s:Sat h (bf q p μ::S))(I:μ.Ok)(hn:n<18446744073709551616): Call ⟨Tryz.prog,told⟩ 70 [.ptr q 0,.int .u64 (n:Int)] h fun v h'=>h'=h∧∃r:Nat,v=.int .u64 (r:Int) ∧
  ((r=μ.base+μ.b.length∧μ.base+μ.b.length≤n)∨(μ.hasB r=true∧r≤n)∨r=μ.base)∧(μ.hasB n=true→n<μ.base+μ.b.length→r=n):=by
 have s0:=s
 obtain ⟨bv,sv,s⟩:=c8.1 s
 have wY:=I.many
 have wZ:=I.size
 refine Call.of_wp (hT.free _ rfl) Tryz.func70 rfl rfl (zK 8 rfl (zc rfl (D1 hT s0 I hn) ?_))
 rintro v h' ⟨rfl,i,hi,rfl⟩
 have hh:=hi.has I.wX
 refine zk 3 rfl (WP.block (zK 4 rfl (zc rfl (nQ hT s0 I.size) ?_)))
 rintro v h' ⟨rfl,rfl⟩
 by_cases GZ:μ.base+μ.b.length≤n
 ·skip
  refine zt rfl (ag rfl rfl ng) (by simp; omega) ?_
  refine zk 6 rfl (zc rfl (nQ hT s0 I.size) ?_)
  rintro v h' ⟨rfl,rfl⟩
  exact zk 2 rfl (WP.ret ⟨aa,_,rfl,rfl,μ.base+μ.b.length,rfl,.inl ⟨rfl,GZ⟩,fun _ hn=>absurd hn (by omega)⟩)
 ·skip
  refine zh rfl (ag rfl rfl ng) (by simp; omega) ?_
  refine zk 4 rfl (WP.drawn [ai,ai,ai,ai,ai,ai,ai,ai,ai,ai,ai,ai,ai,ai,ai,ai,ai,ai,ai,ai,ai,ai,ai,ai,ai] rfl (by kernel_rfl) (by kernel_rfl) ?_)
  refine zM rfl (zM rfl (zN rfl (zF rfl (iS _ _) (zL rfl (s.ld (k:=0) rfl qf rfl) (zO rfl (a_ rfl rfl rfl (s.iH (n:=μ.bw.length) (j:=2) rfl (by rw [j8,dO]) (by decide) eu)) ?_)))))
  by_cases Cq:i<μ.bw.length
  ·skip
   refine aA.qb rfl rfl rfl rfl (ag rfl rfl bx) (by simp; omega) ?_
   obtain ⟨st,gn⟩:∃st,μ.bw[i]?=some st:=⟨_,bg Cq⟩
   have Lk:=I.low st (bq gn)
   obtain ⟨id,off,e1,e2⟩:=kR (P:=Tryz.prog) s (k:=2) rfl (uP gn) eu jK
   refine zM rfl (zM rfl (zN rfl (zF rfl (gz _ _) (zL rfl (s.ld (k:=0) rfl fX rfl) (zM rfl (zN rfl (zF rfl (iS _ _) (zL rfl (s.ld (k:=0) rfl qf rfl) (zM rfl (zO rfl (dG (r:=.ptr id off) rfl rfl e1) (zL rfl (e2 _ c7) (aA.op rfl rfl rfl (by simp only [isEff,cq]) (b8 rfl (by exact jx bE cq (eR (by omega) (by omega)))) ?_))))))))))))
   refine zO rfl (ag rfl rfl (by exact bO (eR (by omega) (by omega)))) ?_
   refine zM rfl ?_
   by_cases he:μ.base+st=n
   ·skip
    refine aA.qb rfl rfl rfl rfl (ag rfl rfl bR) (by simp; omega) ?_
    refine zO rfl (kP rfl rfl) (zA rfl ?_)
    refine aA.nil ⟨⟨aa,aa,aa,aa,aa,aa,aa,aa,aa,aa,aa,aa,aa,aa,aa,aa,aa,aa,aa,aa,aa,aa,aa,aa,aa,aa⟩,?_⟩
    exact zK 6 rfl (WP.ret ⟨aa,_,rfl,rfl,n,rfl,.inr (.inl ⟨hh.2 ⟨st,gn,he⟩,aL _⟩),fun _ _=>rfl⟩)
   ·skip
    refine aA.nh rfl rfl rfl rfl (ag rfl rfl bR) (by simp; omega) ?_
    refine zO rfl (kP rfl rfl) (zA rfl ?_)
    refine aA.nil ⟨⟨aa,aa,aa,aa,aa,aa,aa,aa,aa,aa,aa,aa,aa,aa,aa,aa,aa,aa,aa,aa,aa,aa,aa,aa,aa,aa⟩,?_⟩
    refine zK 4 rfl ?_
    have Vo:¬μ.hasB n=true:=fun U=>by
     obtain ⟨s',h1,h2⟩:=hh.1 U
     rw [gn] at h1; have:=bt h1; omega
    by_cases Vp:i=0
    ·skip
     refine zt rfl (ag rfl rfl bR) (by simp; omega) ?_
     exact zk 7 rfl (zf rfl (gz _ _) (zl rfl (s.ld (k:=0) rfl fX rfl) (zk 2 rfl (WP.ret ⟨aa,_,rfl,rfl,μ.base,rfl,.inr (.inr rfl),fun U _=>absurd U (Vo)⟩))))
    ·skip
     refine zh rfl (ag rfl rfl bR) (by simp; omega) ?_
     refine za rfl (zv (zj rfl (WP.skip (zw ?_))))
     obtain ⟨s2,J⟩:∃st,μ.bw[i-1]?=some st:=⟨_,bg (by omega)⟩
     have RW:=I.low s2 (bq J)
     obtain ⟨id,off,e1,e2⟩:=kR (P:=Tryz.prog) s (k:=2) rfl (uP J) eu jK
     rw [show ((i-1:Nat):Int)=(i:Int)-1 by omega] at e1
     refine WP.drawn [ai,ai,ai,ai,ai,ai,ai,ai,ai,ai,ai,ai,ai,ai,ai] rfl (by kernel_rfl) (by kernel_rfl) ?_
     refine zM rfl (zN rfl (zF rfl (gz _ _) (zL rfl (s.ld (k:=0) rfl fX rfl) (zM rfl (zN rfl (zF rfl (iS _ _) (zL rfl (s.ld (k:=0) rfl qf rfl) (zM rfl (zO rfl (ag rfl rfl (by exact lE (aT (by omega) (by omega)))) ?_)))))))))
     refine zO rfl (dG (r:=.ptr id off) rfl rfl e1) (zL rfl (e2 _ c7) (aA.op rfl rfl rfl (by simp only [isEff,cq]) (b8 rfl (by exact jx bE cq (eR (by omega) (by omega)))) ?_))
     refine zO rfl (ag rfl rfl (by exact bO (eR (by omega) (by omega)))) ?_
     refine zA rfl ?_
     refine aA.nil ⟨⟨aa,aa,aa,aa,aa,aa,aa,aa,aa,aa,aa,aa,aa,aa,aa,aa⟩,?_⟩
     refine WP.ret ⟨aa,_,rfl,?_⟩
     have bX:=hi.2.1 (i-1) s2 (by omega) J
     refine ⟨rfl,μ.base+s2,rfl,.inr (.inl ⟨?_,by omega⟩),fun U _=>absurd U Vo⟩
     rw [Lg.hasB,sQ]
     exact ⟨s2,bq J,by simp⟩
  ·skip
   refine aA.nh rfl rfl rfl rfl (ag rfl rfl bx) (by simp; omega) ?_
   refine zM rfl (aA.no (e:=false) rfl rfl rfl rfl (aA.no (e:=false) rfl rfl rfl rfl (aA.no (e:=false) rfl rfl rfl rfl (aA.no (e:=false) rfl rfl rfl rfl (aA.no (e:=false) rfl rfl rfl rfl (aA.no (e:=false) rfl rfl rfl rfl (aA.no (e:=false) rfl rfl rfl rfl (aA.no (e:=false) rfl rfl rfl rfl (aA.no (e:=false) rfl rfl rfl rfl (aA.no (e:=false) rfl rfl rfl rfl (aA.no (e:=false) rfl rfl rfl rfl (aA.no (e:=false) rfl rfl rfl (by simp only [isEff,cq]) ?_))))))))))))
   refine aA.no (e:=false) rfl rfl rfl rfl (aA.no (e:=false) rfl rfl rfl rfl (aA.no (e:=false) rfl rfl rfl rfl (zO rfl (kr rfl rfl) (zA rfl ?_))))
   refine aA.nil ⟨⟨aa,aa,aa,aa,aa,aa,aa,aa,aa,aa,aa,aa,aa,aa,aa,aa,aa,aa,aa,aa,aa,aa,aa,aa,aa,aa⟩,?_⟩
   refine zK 4 rfl ?_
   have Vq:¬μ.hasB n=true:=fun U=>by
    obtain ⟨s',h1,h2⟩:=hh.1 U
    have:=(List.getElem?_eq_some_iff.1 h1).1
    omega
   by_cases Vp:i=0
   ·skip
    refine zt rfl (ag rfl rfl bR) (by simp; omega) ?_
    exact zk 7 rfl (zf rfl (gz _ _) (zl rfl (s.ld (k:=0) rfl fX rfl) (zk 2 rfl (WP.ret ⟨aa,_,rfl,rfl,μ.base,rfl,.inr (.inr rfl),fun U _=>absurd U (Vq)⟩))))
   ·skip
    refine zh rfl (ag rfl rfl bR) (by simp; omega) ?_
    refine za rfl (zv (zj rfl (WP.skip (zw ?_))))
    have lp:=hi.1
    obtain ⟨s2,J⟩:∃st,μ.bw[i-1]?=some st:=⟨_,bg (by omega)⟩
    have RW:=I.low s2 (bq J)
    obtain ⟨id,off,e1,e2⟩:=kR (P:=Tryz.prog) s (k:=2) rfl (uP J) eu jK
    rw [show ((i-1:Nat):Int)=(i:Int)-1 by omega] at e1
    refine WP.drawn [ai,ai,ai,ai,ai,ai,ai,ai,ai,ai,ai,ai,ai,ai,ai] rfl (by kernel_rfl) (by kernel_rfl) ?_
    refine zM rfl (zN rfl (zF rfl (gz _ _) (zL rfl (s.ld (k:=0) rfl fX rfl) (zM rfl (zN rfl (zF rfl (iS _ _) (zL rfl (s.ld (k:=0) rfl qf rfl) (zM rfl (zO rfl (ag rfl rfl (by exact lE (aT (by omega) (by omega)))) ?_)))))))))
    refine zO rfl (dG (r:=.ptr id off) rfl rfl e1) (zL rfl (e2 _ c7) (aA.op rfl rfl rfl (by simp only [isEff,cq]) (b8 rfl (by exact jx bE cq (eR (by omega) (by omega)))) ?_))
    refine zO rfl (ag rfl rfl (by exact bO (eR (by omega) (by omega)))) ?_
    refine zA rfl ?_
    refine aA.nil ⟨⟨aa,aa,aa,aa,aa,aa,aa,aa,aa,aa,aa,aa,aa,aa,aa,aa⟩,?_⟩
    refine WP.ret ⟨aa,_,rfl,?_⟩
    have bX:=hi.2.1 (i-1) s2 (by omega) J
    refine ⟨rfl,μ.base+s2,rfl,.inr (.inl ⟨?_,by omega⟩),fun U _=>absurd U Vq⟩
    rw [Lg.hasB,sQ]
    exact ⟨s2,bq J,by simp⟩
def gE (base check:Nat): List Nat:=le 8 base++le 8 check
theorem uQ (a b:Nat): (gE a b).length=16:=by simp [gE,dH]
theorem Cx (I:W told){a b:Nat}(s:Sat h S): Call ⟨Tryz.prog,told⟩ 111 [.ptr q 0,.int .u64 (a:Int),.int .u64 (b:Int)] h fun v h'=>Sat h' (bG v (gE a b)::S):=by
 refine Call.of_wp (I.free _ rfl) Tryz.func111 rfl rfl (zK 7 rfl (zc rfl (vU I s.vQ (by decide) (by simp)) ?_))
 intro v h s
 refine zm rfl (zc rfl (vU I s (by decide) (by simp [dH])) ?_)
 intro v h s
 exact zk 2 rfl (WP.ret ⟨aa,_,rfl,s⟩)
theorem Nw (U:W told){n:Nat}{δ:Dk}(s:Sat h (bf q p μ::aC p δ::S))(I:μ.Ok)(hf:δ.aI<4294967296): Call ⟨Tryz.prog,told⟩ 68 [.ptr q 0,.int .u64 (n:Int)] h fun v h' =>
  (n<μ.base+μ.forced∧v=.int .i64 0∧Sat h' (bf q p μ::aC p δ::S)) ∨
  (μ.base+μ.forced≤n∧δ.dead=true∧v=.int .i64 9∧Sat h' (bf q p μ::aC p δ::S)) ∨
  (μ.base+μ.forced≤n∧δ.dead=false∧δ.aI=0∧v=.int .i64 9∧Sat h' (bf q p μ::aC p δ.die::S)) ∨
  (μ.base+μ.forced≤n∧δ.dead=false∧δ.aI≠0∧v=.int .i64 0∧Sat h' (bf q p { μ with forced:=μ.b.length }::aC p { δ.c_ with aR:=δ.log.length }::S)):=by
 have wZ:=I.size
 have Cy:=I.forced
 have s0:=s
 obtain ⟨bv,sv,s⟩:=c8.1 s
 refine Call.of_wp (U.free _ rfl) Tryz.func68 rfl rfl (zK 9 rfl (zc rfl (sH U s0 I.size I.forced) ?_))
 rintro v h' ⟨rfl,rfl⟩
 by_cases bX:n<μ.base+μ.forced
 ·skip
  refine zt rfl (ag rfl rfl bx) (by simp; omega) ?_
  exact zk 6 rfl (WP.ret ⟨aa,_,rfl,.inl ⟨bX,rfl,s0⟩⟩)
 ·have hle:μ.base+μ.forced≤n:=by omega
  refine zh rfl (ag rfl rfl bx) (by simp; omega) ?_
  refine zk 8 rfl (zf rfl (pF _ _) (zl rfl (s.ld (k:=0) rfl jQ rfl) (zc rfl (EP U (s0.ae [1]) hf) ?_)))
  rintro v h (⟨J,rfl,s⟩ | ⟨J,h0,rfl,s⟩ | ⟨J,h0,rfl,s⟩)
  ·refine aB.op rfl rfl rfl (eV rfl) ?_
   exact zk 4 rfl (zt rfl (ag rfl rfl aX) (rfl) (zk 7 rfl (WP.ret ⟨aa,_,rfl,.inr (.inl ⟨hle,J,rfl,s.ae [1]⟩)⟩)))
  ·skip
   exact zk 5 rfl (zt rfl (ag rfl rfl aX) (rfl) (zk 7 rfl (WP.ret ⟨aa,_,rfl,.inr (.inr (.inl ⟨hle,J,h0,rfl,s.ae [1]⟩))⟩)))
  ·skip
   obtain ⟨bv,sv,s⟩:=c8.1 (s.ae [1])
   refine zk 5 rfl (zh rfl (ag rfl rfl aX) (rfl) (zk 8 rfl (zf rfl (eD _ _) (zl rfl (s.ld (k:=0) rfl bL rfl) (zo rfl (a_ rfl rfl rfl (bh aS (s.aG (k:=1) rfl (bI _ _)))) (zn rfl (zf rfl (pG _ _) ?_)))))))
   refine zS rfl (by exact s.dZ (k:=0) rfl jK rfl (by decide) rfl rfl) (fun h s => ?_)
   exact zk 5 rfl (WP.ret ⟨aa,_,rfl,.inr (.inr (.inr ⟨hle,J,h0,rfl,c8.2 ⟨bv,sv,s⟩⟩))⟩)
theorem Nx (U:W told){n:Nat}{δ:Dk}(s:Sat h (bf q p μ::aC p δ::S))(I:μ.Ok)(hf:δ.aI<4294967296)(hn:n<18446744073709551616): Call ⟨Tryz.prog,told⟩ 69 [.ptr q 0,.int .u64 (n:Int)] h fun v h' =>
  (¬(μ.hasB n=true∧n<μ.base+μ.forced)∧v=.int .i64 1∧Sat h' (bf q p μ::aC p δ::S)) ∨
  (μ.hasB n=true∧n<μ.base+μ.forced∧δ.dead=true∧v=.int .i64 9∧Sat h' (bf q p μ::aC p δ::S)) ∨
  (μ.hasB n=true∧n<μ.base+μ.forced∧δ.dead=false∧δ.aI=0∧v=.int .i64 9∧Sat h' (bf q p μ::aC p δ.die::S)) ∨
  (μ.hasB n=true∧n<μ.base+μ.forced∧δ.dead=false∧δ.aI≠0∧v=.int .i64 0∧Sat h' (bf q p { μ with check:=n }::aC p { δ.c_ with mark:=gE μ.base n }::S)):=by
 have wZ:=I.size
 have Cy:=I.forced
 have s0:=s
 refine Call.of_wp (U.free _ rfl) Tryz.func69 rfl rfl (zK 9 rfl (zc rfl (Az U s0 I hn) ?_))
 rintro v h' ⟨rfl,rfl⟩
 cases hh:μ.hasB n with
 | false =>
  exact zo rfl (dA rfl rfl) (zk 12 rfl (WP.ret ⟨aa,_,rfl,.inl ⟨fun e=>by simp at e,rfl,s0⟩⟩))
 | true =>
  refine zo rfl (dA rfl rfl) (zk 3 rfl (zc rfl (sH U s0 I.size I.forced) ?_))
  rintro v h' ⟨rfl,rfl⟩
  by_cases J:n<μ.base+μ.forced
  ·skip
   refine zh rfl (ag rfl rfl ng) (by simp; omega) ?_
   refine zk 6 rfl ?_
   obtain ⟨bv,sv,s⟩:=c8.1 s
   have s1:=s
   refine WP.drawn [some (0,2),some (0,2),some (0,2),some (0,2),ai,ai,ai,ai,ai,ai,ai,ai,ai] rfl (by kernel_rfl) (by kernel_rfl) ?_
   refine zM rfl (zN rfl (zF rfl (pF _ _) (zL rfl (s.ld (k:=0) rfl jQ rfl) (zM rfl (zM rfl (zN rfl (zF rfl (gz _ _) (zL rfl (s.ld (k:=0) rfl fX rfl) (zM rfl (aA.any rfl rfl rfl rfl (OpR.call rfl rfl rfl rfl (Cx (q:=q) (a:=μ.base) (b:=n) U s)) ?_))))))))))
   intro mv h s
   have s:=s.ae [1,1,1,1,0]
   have s2:=s
   refine aA.any rfl rfl rfl rfl (OpR.call rfl rfl rfl rfl (PL U (s.ae [3,3]) (bI _ _) hf)) ?_
   rintro v h hr
   rw [uQ] at hr
   rcases hr with (⟨hd,rfl,s⟩ | ⟨_,hl,_,_⟩ | ⟨hd,_,h0,rfl,s⟩ | ⟨hd,_,h0,rfl,s⟩)
   ·have s:=(s.del 1).ae [1,1,1,0]
    refine zA rfl ?_
    refine aA.nil ⟨⟨fun _ _=>.inr ⟨rfl,⟨_,bk rfl⟩,aW _ rfl⟩,fun _ _=>.inr ⟨rfl,⟨_,jZ rfl⟩,aW _ rfl⟩,fun _ _=>.inr ⟨rfl,⟨_,jv rfl (pF _ _)⟩,aW _ rfl⟩,dP (.inr ⟨rfl,⟨_,aV rfl (s1.ld (k:=0) rfl jQ rfl)⟩,aW _ rfl⟩) (.inr ⟨rfl,⟨_,aV rfl (s2.ld (k:=0) rfl jQ rfl)⟩,aW _ rfl⟩),aa,aa,aa,aa,aa,aa,aa,aa,aa,aa⟩,?_⟩
    exact zK 3 rfl (zt rfl (ag rfl rfl aX) (rfl) (zk 7 rfl (WP.ret ⟨aa,_,rfl,.inr (.inl ⟨rfl,J,hd,rfl,c8.2 ⟨bv,sv,s⟩⟩)⟩)))
   ·omega
   ·have s:=(s.del 1).ae [1,1,1,0]
    refine zA rfl ?_
    refine aA.nil ⟨⟨fun _ _=>.inr ⟨rfl,⟨_,bk rfl⟩,aW _ rfl⟩,fun _ _=>.inr ⟨rfl,⟨_,jZ rfl⟩,aW _ rfl⟩,fun _ _=>.inr ⟨rfl,⟨_,jv rfl (pF _ _)⟩,aW _ rfl⟩,dP (.inr ⟨rfl,⟨_,aV rfl (s1.ld (k:=0) rfl jQ rfl)⟩,aW _ rfl⟩) (.inr ⟨rfl,⟨_,aV rfl (s2.ld (k:=0) rfl jQ rfl)⟩,aW _ rfl⟩),aa,aa,aa,aa,aa,aa,aa,aa,aa,aa⟩,?_⟩
    exact zK 3 rfl (zt rfl (ag rfl rfl aX) (rfl) (zk 7 rfl (WP.ret ⟨aa,_,rfl,.inr (.inr (.inl ⟨rfl,J,hd,h0,rfl,c8.2 ⟨bv,sv,s⟩⟩))⟩)))
   ·have s:=(s.del 1).ae [1,1,1,0]
    refine zA rfl ?_
    refine aA.nil ⟨⟨fun _ _=>.inr ⟨rfl,⟨_,bk rfl⟩,aW _ rfl⟩,fun _ _=>.inr ⟨rfl,⟨_,jZ rfl⟩,aW _ rfl⟩,fun _ _=>.inr ⟨rfl,⟨_,jv rfl (pF _ _)⟩,aW _ rfl⟩,dP (.inr ⟨rfl,⟨_,aV rfl (s1.ld (k:=0) rfl jQ rfl)⟩,aW _ rfl⟩) (.inr ⟨rfl,⟨_,aV rfl (s2.ld (k:=0) rfl jQ rfl)⟩,aW _ rfl⟩),aa,aa,aa,aa,aa,aa,aa,aa,aa,aa⟩,?_⟩
    refine zK 3 rfl (zh rfl (ag rfl rfl aX) (rfl) (zk 8 rfl (zf rfl (pH _ _) ?_)))
    refine zS rfl (by exact s.dZ (k:=0) rfl qT rfl (by decide) rfl rfl) (fun h s => ?_)
    exact zk 5 rfl (WP.ret ⟨aa,_,rfl,.inr (.inr (.inr ⟨rfl,J,hd,h0,rfl,c8.2 ⟨bv,sv,s⟩⟩))⟩)
  ·skip
   refine zt rfl (ag rfl rfl ng) (by simp; omega) ?_
   exact zk 7 rfl (WP.ret ⟨aa,_,rfl,.inl ⟨fun e=>J e.2,rfl,s0⟩⟩)
end
end Go.Proofs.YtconhghphklfjaaGreat.Am
