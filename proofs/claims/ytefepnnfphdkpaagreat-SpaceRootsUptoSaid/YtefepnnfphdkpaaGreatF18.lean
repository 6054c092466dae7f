/- SpaceRoots: a part of its proof; conditions: its statement's. -/
import Derived.Test.YtefepnnfphdkpaaGreatF16
import Derived.Test.YtefepnnfphdkpaaGreatF17
import Derived.Test.YtefepnnfphdkpaaGreatF13
import Derived.Test.YtefepnnfphdkpaaGreatF15
set_option linter.defProp false
namespace Go.Proofs.YtefepnnfphdkpaaGreat.Am
open Go Go.Maps Go.Sort Go.Shelf Go.RowKit
def gn:=@Tryz.underlying145
abbrev ai {α:Type}:Option α:=none
theorem YR (m:Nat): AnyZI.SortsIn Tryz.prog Tryz.sorted61_ren Fence.wide m :=
 ⟨fun lF off cap ss W hH I J=>callsIn_wide.2 (AnyM.slices_Sort_int Tryz.sort119 lF off cap ss W hH I J),
  fun p cap W=>callsIn_wide.2 (AnyM.slices_Sort_int_none Tryz.sort119 p cap W)⟩
theorem EN {g:Nat}(eg:∀args w,(callFunc g args).run Tryz.prog w=.ok (.enter g args) w){Bm:Nat}{D0:DataW Unit}{w:World}(jW:Maps.size D0≤maxLen)(I:Maps.size D0*8≤140737488355328)
 (aaJ:SeqGives Fence.wide 2 Tryz.prog g #[.pointer (some ⟨Bm,0,none⟩)] encZ (fun J=>J.Perm (intKeys D0)) (Maps.size D0) w):
  Calls Tryz.prog 61 #[.func (.func g) #[] #[.pointer (some ⟨Bm,0,none⟩)]] w fun e w'=>∃(v:Value) (J:List Int),e=.returned v∧J.Perm (intKeys D0) ∧
   w'.ownsRow w.heap.size 3 1 v J.length ((J.mergeSort (fun x y=>decide (x≤y))).map encZ)∧(v=.slice none 0 0↔J=[])∧Below w.heap.size w w' :=
 (callsIn_wide (n:=5)).1 (AnyZI.sorted_in Tryz.sorted61 Fence.wide 5 aa aa aa aa rfl (by omega) (YR _) (enters_of Tryz.func119 (by kernel_rfl) rfl) g _ aa eg _ _ jW I _ aaJ)
def A4 : List Nat:=[120,174,175]
theorem OA : FC Tryz.prog 61 3 A4:=by
 intro g hg Bm b nn D0 w hB hm J jW I
 simp only [A4,fq,lP,qT] at hg
 rcases hg with rfl | rfl | rfl
 ·exact EN (enters_of Tryz.func120 (by kernel_rfl) rfl) jW I (AnyZI.keys_gives (ρ:=Tryz.keys62_ren) { Tryz.keys62 with } Fence.wide _ aa rfl (by omega) Bm b nn D0 w hB hm J)
 ·exact EN (enters_of Tryz.func174 (by kernel_rfl) rfl) jW I (AnyZI.keys_gives (ρ:=Tryz.keys143_ren) { Tryz.keys143 with } Fence.wide _ aa rfl (by omega) Bm b nn D0 w hB hm J)
 ·exact EN (enters_of Tryz.func175 (by kernel_rfl) rfl) jW I (AnyZI.keys_gives (ρ:=Tryz.keys147_ren) { Tryz.keys147 with } Fence.wide _ aa rfl (by omega) Bm b nn D0 w hB hm J)
end Go.Proofs.YtefepnnfphdkpaaGreat.Am
namespace Go.Proofs.YtefepnnfphdkpaaGreat.Am
open Go
def HM : List Nat:=[95,176,177,162,161,171,163,116]
structure Std (told:cQ): Prop where
 free:∀f,inL HM f=true→told f=none
 more:told 178=some toldMore
theorem wrap_u64 {n:Nat}(h:n<18446744073709551616): IntKind.wrap .u64 (n:Int)=(n:Int):=by
 simp only [IntKind.wrap,IntKind.bits,IntKind.signed,gZ,dY,bN]
 omega
theorem wrap_u8 (n:Nat): IntKind.wrap .u8 (n:Int)=((n%256:Nat):Int):=by
 simp only [IntKind.wrap,IntKind.bits,IntKind.signed,gZ,dY,bN]
 omega
def digits : Nat→Nat→List Nat
 | 0,n=>[n%128]
 | k+1,n=>if n<128 then [n] else (n%128+128)::digits k (n/128)
set_option maxRecDepth 10000 in
theorem YS {n:Nat}(h:n<256): Nat.lor n 128=n%128+128:=by
 have:∀m:Fin 256,Nat.lor m.1 128=m.1%128+128:=by decide
 exact this ⟨n,h⟩
theorem Ml {n:Nat}(h:n<256): intV .or .u8 (n:Int) 128=some (.int .u8 ((n%128+128:Nat):Int)):=by
 have I:((n:Int)%(2^(IntKind.u8).bits:Int)).toNat=n:=by simp only [IntKind.bits]; omega
 have J:((128:Int)%(2^(IntKind.u8).bits:Int)).toNat=128:=by simp [IntKind.bits]
 simp only [intV,bitsV,I,J,YS h,wrap_u8]
 congr 2
 omega
theorem aaK {n:Nat}: shiftV .shr .u64 (n:Int) 7=some (.int .u64 ((n/128:Nat):Int)):=by
 simp only [shiftV,IntKind.bits]
 have:(Int.toNat 7)=7:=rfl
 simp [this,As]
section
variable {told:cQ}
noncomputable def ZR : Code:=unloop (unblk (leftC (cN ((Tryz.f176.body).getD .skip))))
theorem vA {h:H}{n:Nat}: convV Tryz.prog h 43 5 (.int .u64 (n:Int))=some (.int .u8 ((n%256:Nat):Int),h):=by
 simp only [convV,cE,Tryz.underlying5,wrap_u8]
theorem jH {k n:Nat}(h:n<128): digits k n=[n]:=by
 cases k with
 | zero=>simp [digits,gY h]
 | succ k=>simp [digits,h]
theorem Dc {Q:Ex→List (Nat×V)→H→Prop}{E:List (Nat×V)}{h:H}{n:Nat}(hn:n<128)(I:look E 1=some (.int .u64 (n:Int)))
 (J:Q (.exit 0) ((6,.bool false)::(5,.int .u64 (n:Int))::E) h): WP ⟨Tryz.prog,told⟩ 20 (.loop ZR) E h Q:=by
 refine WP.loop (WP.seq (WP.seq (WP.region rfl ?_)))
 refine zo rfl (bz I) (zo rfl (af (v:=.int .u64 (n:Int)) (u:=.int .u64 128) (r:=.bool false) rfl rfl (by simp only [binV,ikBeq,ag,intV]; congr 2; simp; omega)) ?_)
 exact aA.nil (WP.cond (t:=false) rfl (WP.exit J))
theorem JC : ∀(k n:Nat) (l:List Nat) (s:V) (h:H) (E:List (Nat×V)) (Q:Ex→List (Nat×V)→H→Prop),lX h→jR h s l→n<128^(k+1)→k≤9→l.length+k+1≤140737488355328 →
  look E 0=some s→look E 1=some (.int .u64 (n:Int)) →
  (∀E' h' s' l' (m:Nat),look E' 0=some s'→look E' 1=some (.int .u64 (m:Int))→m<128→l'++[m]=l++digits k n→jR h' s' l'→d_ (2*k) (rowIds s) h h'→(∀i∈rowIds s',i∈rowIds s∨h.next≤i)→Q (.exit 0) E' h') →
  WP ⟨Tryz.prog,told⟩ 20 (.loop ZR) E h Q:=by
 intro k
 induction k with
 | zero =>
  intro n l s h E Q hw hs hn _ _ h0 J hq
  have I:n<128:=by simpa using hn
  exact Dc I J (hq _ h s l n h0 J I (by rw [jH I]) hs (d_.refl hw _) (fun i hi=>.inl hi))
 | succ k ih =>
  intro n l s h E Q hw hs hn hk hl h0 J hq
  by_cases I:n<128
  ·exact Dc I J (hq _ h s l n h0 J I (by rw [jH I]) hs ((d_.refl hw _).mono (ew _) (fun _ h=>h)) (fun i hi=>.inl hi))
  ·have hd:n/128<128^(k+1):=by
    rw [DW (by omega)]
    rw [o7] at hn
    exact hn
   refine WP.loop (WP.seq (WP.seq (WP.region rfl ?_)))
   refine zo rfl (bz J) (zo rfl (af (v:=.int .u64 (n:Int)) (u:=.int .u64 128) (r:=.bool true) rfl rfl (by simp only [binV,ikBeq,ag,intV]; congr 2; simp; omega)) ?_)
   refine aA.nil (WP.cond (t:=true) rfl (WP.skip ?_))
   refine WP.block (WP.seq (WP.region rfl ?_))
   refine zo rfl (bz h0) (zo rfl (bz J) (zo rfl (cJ (v:=.int .u64 (n:Int)) rfl vA) (zo rfl (af (v:=.int .u8 ((n%256:Nat):Int)) (u:=.int .u8 128) (r:=.int .u8 ((n%256%128+128:Nat):Int)) rfl rfl (by simp only [binV,ikBeq,ag]; exact Ml (by omega))) ?_)))
   refine aA.L6 (b:=n%256%128+128) rfl hw rfl rfl rfl rfl rfl rfl (by omega) (fun v h₁ b1 k1 f1 => ?_)
   have ig:jR h₁ s l:=hs.mD hw k1 (fun i _=>lP)
   refine aA.app (s:=s) (x:=v) rfl k1.wf rfl rfl rfl rfl rfl rfl rfl ig b1.view (by simp; omega) (fun v2 Ju b2 k2 f2 => ?_)
   have OB:d_ 2 (rowIds s) h Ju:=(k1.mono (aD _) (fun i hi=>by simp at hi)).trans k2 (fun i hi=>.inl hi)
   refine za rfl ?_
   refine aA.nil (WP.region rfl ?_)
   refine zo rfl (bz J) (zo rfl (af (v:=.int .u64 (n:Int)) (u:=.int .u64 7) (r:=.int .u64 ((n/128:Nat):Int)) rfl rfl (by simp only [binV]; exact aaK)) ?_)
   refine zk 2 rfl ?_
   refine ih (n/128) (l++[n%256%128+128]) v2 Ju _ Q OB.wf b2 hd (by omega) (by simp; omega) rfl rfl (fun E' h' s' l' m q1 q2 q3 q4 q5 q6 q7 => ?_)
   refine hq E' h' s' l' m q1 q2 q3 ?_ q5 ?_ (fun i hi => ?_)
   ·rw [q4]
    simp only [digits,ah I,bS,List.singleton_append]
    congr 2
    omega
   ·exact (OB.trans q6 (fun i hi=>(f2 i hi).imp_right (fun h=>cC k1.le h))).mono (by omega) (fun i hi=>hi)
   ·rcases q7 i hi with h3 | h3
    ·exact (f2 i h3).imp_right (fun h=>cC k1.le h)
    ·exact .inr (cC OB.le h3)
theorem FD (hT:Std told){h:H}{s:V}{l:List Nat}{n k:Nat}(hw:lX h)(hs:jR h s l)(hn:n<128^(k+1))(hk:k≤9)(hl:l.length+k+1≤140737488355328):
  Call ⟨Tryz.prog,told⟩ 176 [s,.int .u64 (n:Int)] h fun v h'=>jR h' v (l++digits k n)∧d_ (2*k+2) (rowIds s) h h'∧∀i∈rowIds v,i∈rowIds s∨h.next≤i:=by
 refine Call.of_wp (hT.free _ rfl) Tryz.func176 rfl rfl ?_
 refine WP.seq (WP.region rfl (aA.op rfl rfl rfl (eT rfl) (aA.nil ?_)))
 refine WP.seq (WP.block ?_)
 refine JC k n l s h _ _ hw hs hn hk hl rfl rfl (fun E' h' s' l' m q1 q2 q3 q4 q5 J q7 => ?_)
 have rS:l'.length=l.length+(digits k n).length-1:=by
  have:=gy List.length q4
  simp at this
  omega
 have Tu:∀(k n:Nat),(digits k n).length≤k+1:=by
  intro k
  induction k with
  | zero=>intro n; simp [digits]
  | succ k ih =>
   intro n
   unfold digits
   split
   ·simp
   ·simp only [aS]; have:=ih (n/128); omega
 have ab5:=Tu k n
 refine WP.seq (WP.region rfl ?_)
 refine zo rfl (bz q1) (zo rfl (bz q2) (zo rfl (cJ (v:=.int .u64 (m:Int)) rfl vA) ?_))
 refine aA.L6 (b:=m%256) rfl J.wf rfl rfl rfl rfl rfl rfl (by omega) (fun v h₁ b1 k1 f1 => ?_)
 have ig:jR h₁ s' l':=q5.mD J.wf k1 (fun i _=>lP)
 refine aA.app (s:=s') (x:=v) rfl k1.wf rfl rfl rfl rfl rfl rfl rfl ig b1.view (by simp; omega) (fun v2 Ju b2 k2 f2 => ?_)
 refine za rfl ?_
 refine aA.nil (WP.ret ?_)
 refine ⟨aa,v2,rfl,?_,?_,fun i hi => ?_⟩
 ·rw [gY (by omega),q4] at b2; exact b2
 ·refine ((J.trans k1 (fun i hi=>by simp at hi)).trans k2 (fun i hi => ?_)).mono (by omega) (fun i hi=>hi)
  rcases q7 i hi with I | I
  ·exact .inl I
  ·exact .inr I
 ·rcases f2 i hi with I | I
  ·exact q7 i I
  ·exact .inr (by have:=J.le; have:=k1.le; omega)
theorem HN {h:H}{n:Nat}(I:n<18446744073709551616): convV Tryz.prog h 3 43 (.int .i64 (n:Int))=some (.int .u64 (n:Int),h):=by
 simp only [convV,bD,cE,wrap_u64 I]
theorem gM : ∀(k n:Nat),(digits k n).length≤k+1:=by
 intro k
 induction k with
 | zero=>intro n; simp [digits]
 | succ k I =>
  intro n
  unfold digits
  split
  ·simp
  ·simp only [aS]; have:=I (n/128); omega
theorem UA (J:Std told){h:H}{s x:V}{l m:List Nat}{k:Nat}(hw:lX h)(hs:jR h s l)(hx:View h x m)(hd:∀i∈rowIds x,i∉rowIds s)(hn:m.length<128^(k+1))(hk:k≤9)(hl:l.length+k+1+m.length≤140737488355328):
  Call ⟨Tryz.prog,told⟩ 177 [s,x] h fun v h'=>jR h' v (l++digits k m.length++m)∧d_ (2*k+3) (rowIds s) h h'∧∀i∈rowIds v,i∈rowIds s∨h.next≤i:=by
 refine Call.of_wp (J.free _ rfl) Tryz.func177 rfl rfl ?_
 refine WP.seq (WP.region rfl (aA.op rfl rfl rfl (eT rfl) (aA.nil ?_)))
 refine WP.seq (WP.region rfl ?_)
 refine zk 2 rfl (zo rfl (aU (v:=x) rfl rfl rfl hx.len) (zo rfl (cJ (v:=.int .i64 (m.length:Int)) rfl (HN (by omega))) ?_))
 refine aA.call rfl rfl rfl rfl rfl rfl rfl (FD J (k:=k) hw hs hn hk (by omega)) (fun v h₁ ⟨b1,k1,f1⟩ => ?_)
 refine zm rfl ?_
 have Tu:=gM k m.length
 refine aA.app (s:=v) (x:=x) rfl k1.wf rfl rfl rfl rfl rfl rfl rfl b1 (hx.mD hw k1 hd) (by simp; omega) (fun v2 Ju b2 k2 f2 => ?_)
 refine aA.op rfl rfl rfl (eT rfl) (aA.nil (WP.ret ?_))
 refine ⟨aa,v2,rfl,b2,(k1.trans k2 f1).mono (by omega) (fun i hi=>hi),fun i hi => ?_⟩
 rcases f2 i hi with I | I
 ·exact f1 i I
 ·exact .inr (cC k1.le I)
def le : Nat→Nat→List Nat
 | 0,_=>[]
 | k+1,n=>(n%256)::le k (n/256)
theorem cy : ∀(k n:Nat),(le k n).length=k:=by
 intro k
 induction k with
 | zero=>intro n; rfl
 | succ k I=>intro n; simp [le,I]
theorem Mm : ∀(k n:Nat),∀b∈le k n,b<256:=by
 intro k
 induction k with
 | zero=>intro n b I; cases I
 | succ k J =>
  intro n b I
  rcases List.mem_cons.1 I with rfl | I
  ·omega
  ·exact J _ b I
noncomputable def lyX : Code:=unloop (unblk (cN (leftC (cN ((Tryz.f95.body).getD .skip)))))
theorem aaL {n i:Nat}(hi:i≤8): shiftV .shr .u64 (n:Int) ((8*i:Nat):Int)=some (.int .u64 ((n/256^i:Nat):Int)):=by
 simp only [shiftV,IntKind.bits,b9]
 rw [show min (8*i) 64=8*i by omega,show decide (((8*i:Nat):Int)<0)=false by simp; omega,az]
 congr 2
 rw [As _ (Int.pow_nonneg (by omega))]
 rw [show (256:Nat)^i=2^(8*i) by rw [Nat.pow_mul]]
 push_cast
 rfl
theorem Q7 {n size:Nat}(eZ:size≤8): ∀(j i:Nat) (l:List Nat) (s:V) (h:H) (E:List (Nat×V)) (Q:Ex→List (Nat×V)→H→Prop),lX h→jR h s l→i+j=size→l.length+j≤140737488355328 →
  look E 0=some s→look E 2=some (.int .u64 (n:Int))→look E 8=some (.int .i64 (size:Int))→look E 9=some (.int .i64 (i:Int)) →
  (∀E' h' s',look E' 0=some s'→jR h' s' (l++le j (n/256^i))→d_ (2*j) (rowIds s) h h'→(∀i∈rowIds s',i∈rowIds s∨h.next≤i)→Q (.exit 0) E' h') →
  WP ⟨Tryz.prog,told⟩ 22 (.loop lyX) E h Q:=by
 intro j
 induction j with
 | zero =>
  intro i l s h E Q hw hs hi _ h0 h2 h8 h9 hq
  refine WP.loop (WP.seq (WP.region rfl ?_))
  refine zo rfl (af (v:=.int .i64 (i:Int)) (u:=.int .i64 (size:Int)) (r:=.bool false) h9 h8 (by simp only [binV,ikBeq,ag,intV]; congr 2; simp; omega)) ?_
  refine aA.nil (WP.seq (WP.cond (t:=false) rfl (WP.exit ?_)))
  exact hq _ h s h0 (by simpa [le] using hs) (d_.refl hw _) (fun i hi=>.inl hi)
 | succ j ih =>
  intro i l s h E Q hw hs hi hl h0 h2 h8 h9 hq
  refine WP.loop (WP.seq (WP.region rfl ?_))
  refine zo rfl (af (v:=.int .i64 (i:Int)) (u:=.int .i64 (size:Int)) (r:=.bool true) h9 h8 (by simp only [binV,ikBeq,ag,intV]; congr 2; simp; omega)) ?_
  refine aA.nil (WP.seq (WP.cond (t:=true) rfl (WP.skip ?_)))
  refine WP.seq (WP.block (WP.seq (WP.region rfl ?_)))
  refine zo rfl (bz h9) ?_
  refine aA.op rfl rfl rfl (eT rfl) (aA.nil (WP.region rfl ?_))
  refine zo rfl (bz h0) (zo rfl (bz h2) (zm rfl ?_))
  refine aA.op rfl rfl rfl (af (v:=.int .i64 8) (u:=.int .i64 (i:Int)) (r:=.int .i64 ((8*i:Nat):Int)) rfl rfl (by
   simp only [binV,ikBeq,ag,intV]
   rw [show (8:Int)*(i:Int)=((8*i:Nat):Int) by push_cast; rfl,wrap_i64 (by omega)])) ?_
  refine zo rfl (af (v:=.int .u64 (n:Int)) (u:=.int .i64 ((8*i:Nat):Int)) (r:=.int .u64 ((n/256^i:Nat):Int)) rfl rfl (by simp only [binV]; exact aaL (by omega))) ?_
  refine zo rfl (cJ (v:=.int .u64 ((n/256^i:Nat):Int)) rfl vA) ?_
  refine aA.L6 (b:=n/256^i%256) rfl hw rfl rfl rfl rfl rfl rfl (by omega) (fun v h₁ b1 k1 f1 => ?_)
  have ig:jR h₁ s l:=hs.mD hw k1 (fun i _=>lP)
  refine aA.app (s:=s) (x:=v) rfl k1.wf rfl rfl rfl rfl rfl rfl rfl ig b1.view (by simp; omega) (fun v2 I b2 k2 f2 => ?_)
  have J:d_ 2 (rowIds s) h I:=(k1.mono (aD _) (fun i hi=>by simp at hi)).trans k2 (fun i hi=>.inl hi)
  refine aA.op rfl rfl rfl (eT rfl) (aA.nil (WP.region rfl ?_))
  refine zo rfl (af (v:=.int .i64 (i:Int)) (u:=.int .i64 1) h9 rfl (by simp only [binV,ikBeq,ag]; exact yR (by omega))) ?_
  refine aA.op rfl rfl rfl (bz rfl) (aA.nil ?_)
  refine ih (i+1) (l++[n/256^i%256]) v2 I _ Q J.wf b2 (by omega) (by simp; omega) rfl h2 h8 rfl (fun E' h' s' q1 q2 q3 q4 => ?_)
  refine hq E' h' s' q1 ?_ ?_ (fun i hi => ?_)
  ·have e1:n/256^(i+1)=n/256^i/256:=by rw [o7,Nat.div_div_eq_div_mul]
   rw [e1] at q2
   simpa [le] using q2
  ·exact (J.trans q3 (fun i hi=>(f2 i hi).imp_right (fun h=>cC k1.le h))).mono (by omega) (fun i hi=>hi)
  ·rcases q4 i hi with h3 | h3
   ·exact (f2 i h3).imp_right (fun h=>cC k1.le h)
   ·exact .inr (cC J.le h3)
theorem OC (J:Std told){h:H}{s:V}{l:List Nat}{n size:Nat}(hw:lX h)(hs:jR h s l)(I:size≤8)(hl:l.length+size≤140737488355328):
  Call ⟨Tryz.prog,told⟩ 95 [s,.int .i64 (size:Int),.int .u64 (n:Int)] h fun v h'=>jR h' v (l++le size n)∧d_ (2*size) (rowIds s) h h'∧∀i∈rowIds v,i∈rowIds s∨h.next≤i:=by
 refine Call.of_wp (J.free _ rfl) Tryz.func95 rfl rfl ?_
 refine WP.seq (WP.region rfl (aA.op rfl rfl rfl (eT rfl) (aA.nil ?_)))
 refine WP.seq (WP.seq (WP.region rfl ?_))
 refine zm rfl ?_
 refine aA.op rfl rfl rfl (bz rfl) (aA.nil (WP.block ?_))
 refine Q7 I size 0 l s h _ _ hw hs (by omega) hl rfl rfl rfl rfl (fun E' h' s' q1 q2 q3 q4 => ?_)
 refine WP.seq (WP.region rfl ?_)
 refine zo rfl (bz q1) ?_
 refine aA.op rfl rfl rfl (eT rfl) (aA.nil (WP.ret ?_))
 exact ⟨aa,s',rfl,by simpa using q2,q3,q4⟩
theorem Mn : ∀(l:List Nat),(∀b∈l,b<256)→bytesIn (ofBytes l)=some l:=by
 intro l
 induction l with
 | nil=>intro _; rfl
 | cons b l I =>
  intro h
  have hb:=h b bu
  have:=I (fun c J=>h c (bn _ J))
  show bytesIn (.int .u8 (b:Int)::ofBytes l)=_
  simp only [bytesIn,this]
  rw [show (decide ((0:Int)≤(b:Int))&&decide ((b:Int)<256))=true by simp; omega]
  rfl
def B2 (s:Nat)(l:List Nat): Nat:=Nat.xor (crcL (Nat.xor s 4294967295) l) 4294967295
theorem EO {s:Nat}{l:List Nat}(hs:s<4294967296)(I:∀b∈l,b<256): B2 s l<4294967296:=oB (Ey l _ (oB hs (by omega)) I) (by omega)
theorem KN (hT:Std told){h:H}{x:V}{l:List Nat}{s:Nat}(J:View h x l)(hl:l.length≤4611686018427387904)(hs:s<4294967296):
  hG ⟨Tryz.prog,told⟩ 178 [.int .u32 (s:Int),x] h (.int .u32 (B2 s l:Nat)) h:=by
 refine hG.told hT.more CN rfl ?_
 have I:=J
 obtain ⟨hb,I⟩:=I
 rcases I with ⟨rfl | ⟨ea,rfl⟩,rfl⟩ | ⟨id,off,cap,n,cs,st,rfl,hg,h1,h2,h3,h4⟩
 ·simp only [toldMore]
  rw [show (decide ((0:Int)≤(s:Int))&&decide ((s:Int)<4294967296))=true by simp; omega]
  rfl
 ·simp only [toldMore]
  rw [show (decide ((0:Int)≤(s:Int))&&decide ((s:Int)<4294967296))=true by simp; omega]
  rfl
 ·simp only [toldMore]
  rw [show (decide ((0:Int)≤(s:Int))&&decide ((s:Int)<4294967296)&&Nat.ble l.length 4611686018427387904)=true by simp [aJ]; omega,ag,(View.rdN J).2]
  simp only [Mn l hb]
  rfl
theorem YT (I:Std told){h:H}{x:V}{l:List Nat}(J:View h x l)(hl:l.length≤4611686018427387904):
  Call ⟨Tryz.prog,told⟩ 171 [x] h fun v h'=>v=.int .u32 (B2 0 l:Nat)∧h'=h:=by
 refine Call.of_wp (I.free _ rfl) Tryz.func171 rfl rfl ?_
 refine WP.seq (WP.region rfl (aA.op rfl rfl rfl (eT rfl) (aA.nil ?_)))
 refine WP.seq (WP.region rfl ?_)
 refine zm rfl ?_
 refine aA.call (xo:=fun v h'=>v=.int .u32 (B2 0 l:Nat)∧h'=h) rfl rfl rfl rfl rfl rfl rfl ⟨_,_,KN (s:=0) I J hl (by omega),rfl,rfl⟩ (fun v h₁ ⟨e1,e2⟩ => ?_)
 subst e1; subst e2
 exact aA.op rfl rfl rfl (eT rfl) (aA.nil (WP.ret ⟨aa,_,rfl,rfl,rfl⟩))
def sM (aK:Nat)(l:List Nat): Nat:=B2 (B2 0 (le 8 aK)) l
theorem HO {aK:Nat}{l:List Nat}(I:∀b∈l,b<256): sM aK l<4294967296:=EO (EO (by omega) (Mm 8 aK)) I
theorem OD (J:Std told){h:H}{x:V}{l:List Nat}{aK:Nat}(hw:lX h)(hx:View h x l)(hl:l.length≤4611686018427387904):
  Call ⟨Tryz.prog,told⟩ 163 [.int .u64 (aK:Int),x] h fun v h'=>v=.int .u32 (sM aK l:Nat)∧d_ 16 [] h h':=by
 refine Call.of_wp (J.free _ rfl) Tryz.func163 rfl rfl ?_
 refine WP.seq (WP.region rfl (aA.op rfl rfl rfl (eT rfl) (aA.nil ?_)))
 refine WP.seq (WP.region rfl ?_)
 refine zm rfl ?_
 refine aA.call rfl rfl rfl rfl rfl rfl rfl (OC (size:=8) (s:=.bw) (l:=[]) (n:=aK) J hw ⟨by simp,.inl ⟨rfl,rfl⟩⟩ (by omega) (by simp)) (fun v h₁ ⟨b1,k1,f1⟩ => ?_)
 rw [cZ] at b1
 refine aA.call rfl rfl rfl rfl rfl rfl rfl (YT J b1.view (by rw [cy]; omega)) (fun v2 I ⟨e1,e2⟩ => ?_)
 subst e1; subst e2
 refine zm rfl ?_
 refine aA.call (xo:=fun v h'=>v=.int .u32 (sM aK l:Nat)∧h'=I) rfl rfl rfl rfl rfl rfl rfl
  ⟨_,_,KN (s:=B2 0 (le 8 aK)) J (hx.mD hw k1 (fun i _ hi=>by simp [rowIds] at hi)) hl (EO (by omega) (Mm 8 aK)),rfl,rfl⟩ (fun v3 OE ⟨e3,e4⟩ => ?_)
 subst e3; subst e4
 exact aA.op rfl rfl rfl (eT rfl) (aA.nil (WP.ret ⟨aa,_,rfl,rfl,k1.mono (aD _) (fun i hi=>by simp [rowIds] at hi)⟩))
end
def OF : List Nat:=[31,50,178,61,173,139,145]
structure W (told:cQ): Prop where
 free:∀f,inL OF f=false→told f=none
 more:told 178=some toldMore
 sorted:told 61=some (toldSorted A4)
theorem W.Tv {told:cQ}(I:W told): Std told:=by
 refine ⟨fun f J=>I.free f ?_,I.more⟩
 have:∀f∈HM,inL OF f=false:=by decide
 exact this f (by rw [NC] at J; simpa using J)
def lq (v:V): Option (List Nat)→au
 | none=>.pu (v=.bw)
 | some b=>.an (.pu (v≠.bw)) (.cx v b)
theorem aW.lq (v:V)(o:Option (List Nat)): aW (Am.lq v o):=by
 cases o with
 | none=>exact aW.pu _
 | some b=>exact aW.an (aW.pu _) (aW.cx _ _)
def each {α:Type}(f:V→α→au): List V→List α→au
 | [],[]=>.pu True
 | v::l,x::m=>.an (f v x) (each f l m)
 | _,_=>.pu False
theorem aW.each {α:Type}{f:V→α→au}(I:∀v x,aW (f v x)): ∀(l:List V) (m:List α),aW (Am.each f l m):=by
 intro l
 induction l with
 | nil=>intro m; cases m <;> exact aW.pu _
 | cons v l J=>intro m; cases m with
  | nil=>exact aW.pu _
  | cons x m=>exact aW.an (I _ _) (J m)
section
variable {α:Type} {f:V→α→au} {a b:PM}
theorem ry : ∀ {l:List V} {m:List α},(each f l m).p a b→l.length=m.length:=by
 intro l
 induction l with
 | nil=>intro m h; cases m with
  | nil=>rfl
  | cons x m=>exact h.elim
 | cons v l I=>intro m h; cases m with
  | nil=>exact h.elim
  | cons x m=>simp only [aS,I h.2]
theorem B3 : ∀ {l:List V} {m:List α} {i:Nat} {v:V} {x:α},(each f l m).p a b→l[i]?=some v→m[i]?=some x→(f v x).p a b:=by
 intro l
 induction l with
 | nil=>intro m i v x h hv; simp at hv
 | cons u l J=>intro m i v x h hv I; cases m with
  | nil=>exact h.elim
  | cons y m =>
   cases i with
   | zero=>simp at hv I; subst hv; subst I; exact h.1
   | succ i=>simp at hv I; exact J h.2 hv I
theorem B4 : ∀ {l:List V} {m:List α} {i:Nat} {v:V} {x:α},(each f l m).p a b→(f v x).p a b→(each f (l.set i v) (m.set i x)).p a b:=by
 intro l
 induction l with
 | nil=>intro m i v x h hv; cases m with
  | nil=>exact h
  | cons x m=>exact h.elim
 | cons u l I=>intro m i v x h hv; cases m with
  | nil=>exact h.elim
  | cons y m =>
   cases i with
   | zero=>exact ⟨hv,h.2⟩
   | succ i=>exact ⟨h.1,I h.2 hv⟩
end
abbrev Wr := Nat×List Nat
structure Dk where
 room:Nat
 ax:List (Option (List Nat))
 waiting:List Wr
 now:List (Int×List Nat)
 log:List Nat
 bp:Nat
 mark:List Nat
 aP:Int
 dead:Bool
 eE:Option Wr
 tail:List Nat
def wK (room:Nat)(pg wt nw lg:V)(I:Nat)(mk:V)(J ops:Int)(dead:Bool)(tn tl:V): List V :=
 [.int .i64 (room:Int),pg,wt,nw,lg,.int .i64 (I:Int),mk,.int .i64 J,.int .i64 ops,.bool dead,tn,tl]
def uu : List V→List Wr→au
 | [],[]=>.pu True
 | p::v::l,x::m=>.an (.an (.pu (p=.int .i64 (x.1:Int)∧v≠.bw)) (.cx v x.2)) (uu l m)
 | _,_=>.pu False
theorem aW.wr : ∀(m:List Wr) (l:List V),aW (uu l m):=by
 intro m
 induction m with
 | nil=>intro l; cases l with
  | nil=>exact aW.pu _
  | cons v l=>cases l <;> exact aW.pu _
 | cons x m I=>intro l; cases l with
  | nil=>exact aW.pu _
  | cons v l=>cases l with
   | nil=>exact aW.pu _
   | cons u l=>exact aW.an (aW.an (aW.pu _) (aW.cx _ _)) (I l)
theorem UB {a b:PM}: ∀ {m:List Wr} {l:List V} {x:Wr} {v:V},(uu l m).p a b→v≠.bw→(au.cx v x.2).p a b→(uu (l++[.int .i64 (x.1:Int),v]) (m++[x])).p a b:=by
 intro m
 induction m with
 | nil=>intro l x v h I hv; cases l with
  | nil=>exact ⟨⟨⟨rfl,I⟩,hv⟩,aa⟩
  | cons u l=>cases l <;> exact h.elim
 | cons y m J=>intro l x v h I hv; cases l with
  | nil=>exact h.elim
  | cons u l=>cases l with
   | nil=>exact h.elim
   | cons w l=>exact ⟨h.1,J h.2 I hv⟩
theorem A5 {a b:PM}: ∀ {m:List Wr} {l:List V},(uu l m).p a b→l.length=m.length*2:=by
 intro m
 induction m with
 | nil=>intro l h; cases l with
  | nil=>rfl
  | cons u l=>cases l <;> exact h.elim
 | cons y m I=>intro l h; cases l with
  | nil=>exact h.elim
  | cons u l=>cases l with
   | nil=>exact h.elim
   | cons w l=>have:=I h.2; simp only [aS]; omega
def oH (v:V)(m:List (Option (List Nat))): au:=xs fun id:Nat=>xs fun cs:List V=>star [.pu (v=.sl id 0 m.length (.exact m.length)),pt id (.cells m.length cs false),each lq cs m]
def A6 (v:V)(m:List Wr): au:=xs fun cs:List V=>star [.arr 2 v cs,uu cs m]
def A7 (v:V): Option Wr→au
 | none=>.pu (v=.cu)
 | some x=>xs fun id:Nat=>xs fun u:V=>star [.pu (v=.ptr id 0),pt id (.cells 2 [.int .i64 (x.1:Int),u] false),.cx u x.2]
def aR (p:Nat)(δ:Dk): au:=xs fun pg:V=>xs fun wt:V=>xs fun nw:V=>xs fun lg:V=>xs fun mk:V=>xs fun I:V=>xs fun J:V=>xs fun ops:Int =>
 star [pt p (.cells 12 (wK δ.room pg wt nw lg δ.bp mk δ.aP ops δ.dead I J) false),oH pg δ.ax,A6 wt δ.waiting,jc (fun v b=>.cx v b) nw δ.now,aZ lg δ.log,BB mk δ.mark,A7 I δ.eE,BB J δ.tail]
section
variable {h:H} {S:List au} {p:Nat} {δ:Dk}
theorem bG : Sat h (aR p δ::S)↔∃pg wt nw lg mk I J ops,Sat h (pt p (.cells 12 (wK δ.room pg wt nw lg δ.bp mk δ.aP ops δ.dead I J) false)::oH pg δ.ax::A6 wt δ.waiting::jc (fun v b=>.cx v b) nw δ.now::aZ lg δ.log::BB mk δ.mark::A7 I δ.eE::BB J δ.tail::S):=by
 simp only [aR,gN,bQ,fg,cZ]
theorem gq {v:V}{m:List (Option (List Nat))}: Sat h (oH v m::S)↔∃id cs,v=.sl id 0 m.length (.exact m.length)∧Sat h (pt id (.cells m.length cs false)::each lq cs m::S):=by
 simp only [oH,gN,bQ,fg,cZ,eo]
theorem mA {v:V}{m:List Wr}: Sat h (A6 v m::S)↔∃cs,Sat h (.arr 2 v cs::uu cs m::S):=by
 simp only [A6,gN,bQ,fg,cZ]
end
section
variable {told:cQ} {h:H} {S:List au} {X:au} {v:V} {l:List Nat}
def zH (s:Nat)(l:List Nat): Nat:=Nat.xor (crcL (Nat.xor s 4294967295) l) 4294967295
theorem B5 {s:Nat}{l:List Nat}(hs:s<4294967296)(I:∀b∈l,b<256): zH s l<4294967296:=oB (Ey _ _ (oB hs (by omega)) I) (by omega)
theorem UC (hT:W told){k s:Nat}(sa:Sat h S)(hk:getA S k=some X)(hX:cT X (cU v l))(hs:s<4294967296)(hl:l.length≤4611686018427387904):
  Call ⟨Tryz.prog,told⟩ 178 [.int .u32 (s:Int),v] h fun r h'=>r=.int .u32 (zH s l:Nat)∧h'=h:=by
 have hv:=sa.aE hk hX
 refine ⟨_,_,hG.told hT.more CN rfl ?_,rfl,rfl⟩
 have I:ua (s:Int) l=.int .u32 (zH s l:Nat):=by simp only [ua,zH,b9]
 have J:=hv
 rcases J.2 with ⟨rfl | ⟨ea,rfl⟩,rfl⟩ | ⟨id,off,cap,n,cs,st,rfl,_⟩
 ·simp only [toldMore]
  rw [show (decide ((0:Int)≤(s:Int))&&decide ((s:Int)<4294967296))=true by simp; omega,ag,I]
 ·simp only [toldMore]
  rw [show (decide ((0:Int)≤(s:Int))&&decide ((s:Int)<4294967296))=true by simp; omega,ag,I]
 ·simp only [toldMore]
  rw [show (decide ((0:Int)≤(s:Int))&&decide ((s:Int)<4294967296)&&Nat.ble l.length 4611686018427387904)=true by rw [aJ.2 hl]; simp; omega,ag,hv.rdN.2]
  simp only
  have:∀l:List Nat,(∀b∈l,b<256)→bytesIn (ofBytes l)=some l:=by
   intro l
   induction l with
   | nil=>intro _; rfl
   | cons b l ih =>
    intro hb
    have h1:=ih (fun x hx=>hb x (bn _ hx))
    simp only [ofBytes,b6] at h1 ⊢
    simp only [bytesIn,h1]
    have yg:=hb b bu
    rw [show (decide (0≤(b:Int))&&decide ((b:Int)<256))=true by simp; omega,ag]
    rfl
  rw [this l hv.1]
  simp only [I]
end
section
variable {told:cQ} {h:H} {S:List au} {X:au} {p:Nat} {δ:Dk}
theorem jv (J:W told){x:V}{l:List Nat}(s:Sat h (X::S))(I:cT X (cU x l))(hl:l.length<1073741824):
  Call ⟨Tryz.prog,told⟩ 90 [x] h fun v h'=>Sat h' (aZ v l::X::S):=by
 refine Call.of_wp (J.free _ rfl) Tryz.func90 rfl rfl (zK 7 rfl (zo rfl (aU rfl rfl rfl (a_ aG (s.aE (k:=0) rfl I))) (aA.any rfl rfl rfl (OpR.uq rfl s rfl rfl rfl rfl hl) ?_)))
 intro v h s
 refine zm rfl (aA.any rfl rfl rfl (OpR.ru rfl s I rfl rfl rfl rfl (by simp; omega)) ?_)
 intro v h s
 exact zk 2 rfl (WP.ret ⟨aa,_,rfl,s⟩)
theorem xA (J:W told){x:V}{l:List Nat}(s:Sat h (X::S))(I:cT X (cU x l))(hl:l.length<1073741824):
  Call ⟨Tryz.prog,told⟩ 121 [x] h fun v h'=>Sat h' (aZ v l::X::S):=by
 refine Call.of_wp (J.free _ rfl) Tryz.func121 rfl rfl (zK 7 rfl (zo rfl (aU rfl rfl rfl (a_ aG (s.aE (k:=0) rfl I))) (aA.any rfl rfl rfl (OpR.uq rfl s rfl rfl rfl rfl hl) ?_)))
 intro v h s
 refine zm rfl (aA.any rfl rfl rfl (OpR.ru rfl s I rfl rfl rfl rfl (by simp; omega)) ?_)
 intro v h s
 exact zk 2 rfl (WP.ret ⟨aa,_,rfl,s⟩)
theorem mH (J:W told){x:V}{l:List Nat}(s:Sat h (X::S))(I:cT X (cU x l))(hl:l.length<1073741824):
  Call ⟨Tryz.prog,told⟩ 85 [x] h fun v h'=>Sat h' (aZ v l::X::S):=by
 refine Call.of_wp (J.free _ rfl) Tryz.func85 rfl rfl (zK 7 rfl (zo rfl (aU rfl rfl rfl (a_ aG (s.aE (k:=0) rfl I))) (aA.any rfl rfl rfl (OpR.uq rfl s rfl rfl rfl rfl hl) ?_)))
 intro v h s
 refine zm rfl (aA.any rfl rfl rfl (OpR.ru rfl s I rfl rfl rfl rfl (by simp; omega)) ?_)
 intro v h s
 exact zk 2 rfl (WP.ret ⟨aa,_,rfl,s⟩)
theorem xB (I:W told)(s:Sat h (aR p δ::S)): Call ⟨Tryz.prog,told⟩ 72 [.ptr p 0] h fun v h'=>v=.int .i64 (δ.ax.length:Int)∧h'=h:=by
 obtain ⟨pg,wt,nw,lg,mk,J,tl,ops,s⟩:=bG.1 s
 obtain ⟨id,cs,rfl,s'⟩:=gq.1 (s.ae [1])
 exact Call.of_wp (I.free _ rfl) Tryz.func72 rfl rfl (zK 8 rfl (zf rfl (m5 _ _) (zl rfl (s.ld (k:=0) rfl rH rfl) (zo rfl (aU rfl rfl rfl (pG rfl gn)) (zk 2 rfl (WP.ret ⟨aa,_,rfl,rfl,rfl⟩))))))
theorem OG (hT:W told){n:Int}(s:Sat h (aR p δ::S)): Call ⟨Tryz.prog,told⟩ 170 [.ptr p 0,.int .i64 n] h fun v h'=>h'=h∧((0≤n∧n<δ.ax.length∧v=.bool true)∨(¬(0≤n∧n<δ.ax.length)∧v=.bool false)):=by
 obtain ⟨pg,wt,nw,lg,mk,tn,tl,ops,s⟩:=bG.1 s
 obtain ⟨id,cs,rfl,s'⟩:=gq.1 (s.ae [1])
 refine Call.of_wp (hT.free _ rfl) Tryz.func170 rfl rfl (zK 7 rfl ?_)
 refine zd rfl (af rfl rfl mG) ?_ ?_
 ·intro J
  have J:0≤n:=by simpa using J
  refine zk 4 rfl (zf rfl (m5 _ _) (zl rfl (s.ld (k:=0) rfl rH rfl) (zo rfl (aU rfl rfl rfl (pG rfl gn)) ?_)))
  refine zd rfl (af rfl rfl aT) ?_ ?_
  ·intro I
   have I:n<δ.ax.length:=by simpa using I
   exact zk 3 rfl (WP.ret ⟨aa,_,rfl,rfl,.inl ⟨J,I,rfl⟩⟩)
  ·intro I
   have I:¬ n<δ.ax.length:=by simpa using I
   exact zk 3 rfl (WP.ret ⟨aa,_,rfl,rfl,.inr ⟨fun h=>I h.2,rfl⟩⟩)
 ·intro J
  have J:¬ 0≤n:=by simpa using J
  exact zk 11 rfl (WP.ret ⟨aa,_,rfl,rfl,.inr ⟨fun h=>J h.1,rfl⟩⟩)
def Dk.xC (δ:Dk): Nat:=δ.bp
def Dk.c8 (δ:Dk): Dk:={ δ with aP:=if 0<δ.aP then δ.aP-1 else δ.aP }
def Dk.die (δ:Dk): Dk:={ δ with dead:=true }
theorem pI (hT:W told)(s:Sat h (aR p δ::S))(hf:δ.aP<4294967296):
  Call ⟨Tryz.prog,told⟩ 164 [.ptr p 0] h fun v h'=>(δ.aP=0∧v=.bool false∧Sat h' (aR p δ.die::S))∨(δ.aP≠0∧v=.bool true∧Sat h' (aR p δ.c8::S)):=by
 obtain ⟨pg,wt,nw,lg,mk,tn,tl,ops,s⟩:=bG.1 s
 refine Call.of_wp (hT.free _ rfl) Tryz.func164 rfl rfl (zK 9 rfl (zf rfl (AV _ _) (zl rfl (s.ld (k:=0) rfl dL rfl) ?_)))
 refine zd rfl (af rfl rfl eA) ?_ ?_
 ·intro J
  refine zk 6 rfl (zf rfl (ko _ _) ?_)
  refine zS rfl (by exact s.ey (k:=0) rfl uf rfl (by decide) rfl rfl) (fun h s => ?_)
  refine zk 5 rfl (WP.ret ⟨aa,_,rfl,?_⟩)
  have J:δ.aP=0:=by simpa using J
  exact .inl ⟨J,rfl,bG.2 ⟨pg,wt,nw,lg,mk,tn,tl,ops,s⟩⟩
 ·intro J
  have J:δ.aP≠0:=by simpa using J
  refine zk 8 rfl (zf rfl (AV _ _) (zl rfl (s.ld (k:=0) rfl dL rfl) ?_))
  refine zd rfl (af rfl rfl gv) ?_ ?_
  ·intro I
   have I:0<δ.aP:=by simpa using I
   refine zk 5 rfl (zf rfl (AV _ _) (zl rfl (s.ld (k:=0) rfl dL rfl) (zb rfl (by exact jE (aC (by omega) (by omega))) ?_)))
   refine zn rfl (zf rfl (AV _ _) ?_)
   refine zS rfl (by exact s.ey (k:=0) rfl kW rfl (by decide) rfl rfl) (fun h s => ?_)
   refine zk 5 rfl (zf rfl (AW _ _) (zl rfl (s.ld (k:=0) rfl dL rfl) (zb rfl (by rfl) ?_)))
   refine zn rfl (zf rfl (AW _ _) ?_)
   refine zS rfl (by exact s.ey (k:=0) rfl kW rfl (by decide) rfl rfl) (fun h s => ?_)
   exact zk 5 rfl (WP.ret ⟨aa,_,rfl,.inr ⟨J,rfl,bG.2 ⟨pg,wt,nw,lg,mk,tn,tl,_,by simp only [Dk.c8,aj I]; exact s⟩⟩⟩)
  ·intro I
   have I:¬ 0<δ.aP:=by simpa using I
   refine zk 7 rfl (zf rfl (AW _ _) (zl rfl (s.ld (k:=0) rfl dL rfl) (zb rfl (by rfl) ?_)))
   refine zn rfl (zf rfl (AW _ _) ?_)
   refine zS rfl (by exact s.ey (k:=0) rfl kW rfl (by decide) rfl rfl) (fun h s => ?_)
   exact zk 5 rfl (WP.ret ⟨aa,_,rfl,.inr ⟨J,rfl,bG.2 ⟨pg,wt,nw,lg,mk,tn,tl,_,by simp only [Dk.c8,ah I]; exact s⟩⟩⟩)
def Dk.at (δ:Dk)(n:Int): List Nat:=match lookL n δ.now with
 | some b=>b
 | none=>match δ.ax[n.toNat]? with
  | some (some b)=>b
  | _=>List.replicate 512 0
theorem Mo {v:V}{m:List (Option (List Nat))}{i:Nat}(s:Sat h (oH v m::S))(hi:i<m.length):
  ∃id u,v=.sl id 0 m.length (.exact m.length)∧(∀(P:Program) (t:TypeId),cm P t=some false→loadV P h t (.ptr id i)=some u)∧Sat h (lq u m[i]::oH v m::S):=by
 obtain ⟨id,cs,rfl,s1⟩:=gq.1 s
 obtain ⟨a,b,q1,q2,I⟩:=s1.at (k:=1) rfl
 have hl:=ry I
 have hu:cs[i]?=some (cs[i]'(by omega)):=bf _
 have s2:Sat h (each lq cs m::pt id (.cells m.length cs false)::S):=s1.ae [1]
 have J:=s2.dup (aW.each aW.lq cs m)
 have s4:Sat h (lq (cs[i]'(by omega)) m[i]::each lq cs m::pt id (.cells m.length cs false)::S):=J.hO fun a b h=>B3 h hu (bf hi)
 refine ⟨id,cs[i]'(by omega),rfl,fun P t ht=>Oc ht (s1.row (k:=0) rfl) (by rw [fF,hu]),?_⟩
 have s5:Sat h (pt id (.cells m.length cs false)::each lq cs m::lq (cs[i]'(by omega)) m[i]::S):=s4.ae [2,1]
 exact (gq.2 ⟨id,cs,rfl,s5⟩:Sat h (oH _ m::lq (cs[i]'(by omega)) m[i]::S)).ae [1]
theorem Q8 (hT:W told){n:Int}(s:Sat h (aR p δ::S))(hl:(δ.at n).length=512): Call ⟨Tryz.prog,told⟩ 124 [.ptr p 0,.int .i64 n] h fun v h' =>
  (δ.dead=true∧v=.bj [.bw,.int .i64 9]∧Sat h' (aR p δ::S)) ∨
  (δ.dead=false∧¬(0≤n∧n<δ.ax.length)∧v=.bj [.bw,.int .i64 1]∧Sat h' (aR p δ::S)) ∨
  (δ.dead=false∧0≤n∧n<δ.ax.length∧∃b,v=.bj [b,.int .i64 0]∧Sat h' (aZ b (δ.at n)::aR p δ::S)):=by
 have s0:=s
 obtain ⟨pg,wt,nw,lg,mk,tn,tl,ops,s⟩:=bG.1 s
 refine Call.of_wp (hT.free _ rfl) Tryz.func124 rfl rfl (zK 6 rfl (WP.block (zK 4 rfl (zf rfl (ko _ _) (zl rfl (s.ld (k:=0) rfl kX rfl) (zk 2 rfl ?_))))))
 refine WP.split rfl ?_ ?_
 ·intro hd
  exact zK 5 rfl (WP.ret ⟨aa,_,rfl,.inl ⟨hd,rfl,s0⟩⟩)
 ·intro hd
  refine zK 4 rfl (zc rfl (OG hT s0) ?_)
  rintro v h' ⟨rfl,(⟨J,sA,rfl⟩ | ⟨hn,rfl⟩)⟩
  ·skip
   refine zo rfl (eD rfl rfl) (za rfl (zv (zj rfl (WP.skip (zg rfl (zk 2 rfl (zf rfl (AU _ _) (zl rfl (by exact s.ld (k:=0) rfl jS rfl) ?_))))))))
   refine zm rfl ?_
   have s1:Sat h' (jc (fun v b=>.cx v b) nw δ.now::pt p (.cells 12 (wK δ.room pg wt nw lg δ.bp mk δ.aP ops δ.dead tn tl) false)::oH pg δ.ax::A6 wt δ.waiting::aZ lg δ.log::BB mk δ.mark::A7 tn δ.eE::BB tl δ.tail::S):=s.ae [3]
   rcases mz (n:=n) (fun _ _=>aW.cx _ _) s1 lp bD oP with ⟨g1,g2,_⟩ | ⟨u,b,g1,g2,_,s2⟩
   ·refine aA.op rfl rfl rfl (iJ rfl rfl g2) ?_
    refine zk 10 rfl (zo rfl (eD rfl rfl) (zk 5 rfl (zf rfl (m5 _ _) (zl rfl (s.ld (k:=0) rfl rH rfl) (zm rfl ?_)))))
    have hi:n.toNat<δ.ax.length:=by omega
    obtain ⟨id,u,rfl,g3,s3⟩:=Mo (s.ae [1]) hi
    refine zo rfl (dr (r:=.ptr id n.toNat) rfl rfl (by rw [Tf,show (decide (0≤n)&&decide (n<((δ.ax.length:Nat):Int)))=true by simp; omega,ag]; simp)) ?_
    refine zl rfl (g3 _ _ bJ) (zk 6 rfl ?_)
    have I:δ.at n=match δ.ax[n.toNat] with | some b=>b | none=>List.replicate 512 0:=by
     simp only [Dk.at,g1,bf hi]
     cases δ.ax[n.toNat] <;> rfl
    cases hp:δ.ax[n.toNat] with
    | none =>
     rw [hp] at s3 I
     have I:δ.at n=List.replicate 512 0:=I
     obtain ⟨rfl,_⟩:=eo.1 s3
     refine zt rfl ((by exact af rfl rfl (by simp only [binV,eqV,aG]; rfl))) (rfl) ?_
     refine zk 4 rfl (aA.any rfl rfl rfl (OpR.rJ rfl s0 rfl rfl rfl rfl (by decide)) ?_)
     intro v h s
     exact zk 3 rfl (WP.ret ⟨aa,_,rfl,.inr (.inr ⟨hd,J,sA,v,rfl,by rw [I]; exact s⟩)⟩)
    | some b =>
     rw [hp] at s3 I
     have I:δ.at n=b:=I
     have s4:Sat h' (au.an (.pu (u≠.bw)) (.cx u b)::oH _ δ.ax::_):=s3
     have hu:u≠.bw:=by
      obtain ⟨a,b,q1,q2,q3⟩:=s4.at (k:=0) rfl
      exact q3.1
     have s5:Sat h' (.cx u b::aR p δ::S):=by
      have s6:=s4.hO (B:=.cx u b) fun a b h=>h.2
      exact (bG.2 ⟨_,wt,nw,lg,mk,tn,tl,ops,s6.ae [2,1,1,1,1,1,1,1]⟩:Sat h' (aR p δ::.cx u b::S)).ae [1]
     have uw:∃a b c d,u=.sl a b c d:=by
      rcases (s5.aE (k:=0) rfl (dy _ _)).2 with ⟨_,e⟩ | ⟨a,b,c,_,_,_,e,_⟩
      ·rw [I,e] at hl; simp at hl
      ·exact ⟨_,_,_,_,e⟩
     obtain ⟨a,b',c,d,rfl⟩:=uw
     refine zh rfl ((by exact af rfl rfl (by simp only [binV,eqV,aG]; rfl))) (rfl) ?_
     refine zk 6 rfl (zc rfl (jv hT s5 (dy _ _) (by rw [←I,hl]; decide)) ?_)
     intro v h s
     exact zk 3 rfl (WP.ret ⟨aa,_,rfl,.inr (.inr ⟨hd,J,sA,v,rfl,by rw [I]; exact s.del 1⟩)⟩)
   ·skip
    refine zo rfl (iJ rfl rfl g2) (zk 10 rfl (zo rfl (eD rfl rfl) (zk 7 rfl ?_)))
    have I:δ.at n=b:=by simp only [Dk.at,g1]
    have uw:∃a b c d,u=.sl a b c d:=by
     rcases (s2.aE (k:=0) rfl (dy _ _)).2 with ⟨_,e⟩ | ⟨a,b,c,_,_,_,e,_⟩
     ·rw [I,e] at hl; simp at hl
     ·exact ⟨_,_,_,_,e⟩
    obtain ⟨a,b',c,d,rfl⟩:=uw
    refine zh rfl ((by exact af rfl rfl (by simp only [binV,eqV,aG]; rfl))) (rfl) ?_
    refine zk 6 rfl (zc rfl (jv hT s2 (dy _ _) (by rw [←I,hl]; decide)) ?_)
    intro v h s
    refine zk 3 rfl (WP.ret ⟨aa,_,rfl,?_⟩)
    have s:=bG.2 ⟨pg,wt,nw,lg,mk,tn,tl,ops,s.ae [3,3,3,2,2,2,2,2]⟩
    exact .inr (.inr ⟨hd,J,sA,v,rfl,by rw [I]; exact (s.del 2).ae [1,0]⟩)
  ·skip
   exact zo rfl (eD rfl rfl) (zk 8 rfl (WP.ret ⟨aa,_,rfl,.inr (.inl ⟨hd,hn,rfl,s0⟩)⟩))
theorem BE (I:W told)(s:Sat h (aR p δ::S)): Call ⟨Tryz.prog,told⟩ 135 [.ptr p 0] h fun v h'=>v=.int .i64 (δ.xC:Int)∧h'=h:=by
 obtain ⟨pg,wt,nw,lg,mk,J,tl,ops,s⟩:=bG.1 s
 exact Call.of_wp (I.free _ rfl) Tryz.func135 rfl rfl (zK 8 rfl (zf rfl (tD _ _) (zl rfl (s.ld (k:=0) rfl dL rfl) (zk 2 rfl (WP.ret ⟨aa,_,rfl,rfl,rfl⟩)))))
theorem HP (I:W told)(s:Sat h (aR p δ::S)): Call ⟨Tryz.prog,told⟩ 41 [.ptr p 0] h fun v h'=>v=.bool δ.dead∧h'=h:=by
 obtain ⟨pg,wt,nw,lg,mk,J,tl,ops,s⟩:=bG.1 s
 exact Call.of_wp (I.free _ rfl) Tryz.func41 rfl rfl (zK 8 rfl (zf rfl (ko _ _) (zl rfl (s.ld (k:=0) rfl kX rfl) (zk 2 rfl (WP.ret ⟨aa,_,rfl,rfl,rfl⟩)))))
theorem FE (hT:W told)(s:Sat h (aR p δ::S))(hf:δ.aP<4294967296): Call ⟨Tryz.prog,told⟩ 130 [.ptr p 0] h fun v h' =>
  (δ.dead=true∧v=.int .i64 9∧Sat h' (aR p δ::S))∨(δ.dead=false∧δ.aP=0∧v=.int .i64 9∧Sat h' (aR p δ.die::S)) ∨
  (δ.dead=false∧δ.aP≠0∧v=.int .i64 0∧Sat h' (aR p { δ.c8 with bp:=δ.log.length }::S)):=by
 have s0:=s
 obtain ⟨pg,wt,nw,lg,mk,tn,tl,ops,s⟩:=bG.1 s
 refine Call.of_wp (hT.free _ rfl) Tryz.func130 rfl rfl (zK 9 rfl (zf rfl (ko _ _) ?_))
 refine zd rfl (bh rfl (s.ld (k:=0) rfl kX rfl)) ?_ ?_
 ·intro I
  exact zk 11 rfl (WP.ret ⟨aa,_,rfl,.inl ⟨I,rfl,s0⟩⟩)
 ·intro I
  refine zk 2 rfl (zc rfl (pI hT s0 hf) ?_)
  rintro v h (⟨J,rfl,s⟩ | ⟨J,rfl,s⟩)
  ·skip
   exact zo rfl (eD rfl rfl) (zk 7 rfl (WP.ret ⟨aa,_,rfl,.inr (.inl ⟨I,J,rfl,s⟩)⟩))
  ·skip
   obtain ⟨pg,wt,nw,lg,mk,tn,tl,ops,s⟩:=bG.1 s
   dsimp only [Dk.c8] at s
   refine zo rfl (eD rfl rfl) (zk 9 rfl (zf rfl (kn _ _) (zl rfl (s.ld (k:=0) rfl bJ rfl) (zo rfl (aU rfl rfl rfl (a_ aG (s.aE (k:=4) rfl (bg _ _)))) (zn rfl (zf rfl (tD _ _) ?_))))))
   refine zS rfl (by exact s.ey (k:=0) rfl kW rfl (by decide) rfl rfl) (fun h s => ?_)
   exact zk 5 rfl (WP.ret ⟨aa,_,rfl,.inr (.inr ⟨I,J,rfl,bG.2 ⟨pg,wt,nw,lg,mk,tn,tl,ops,s⟩⟩)⟩)
theorem Mp (hT:W told){x:V}{b:List Nat}(s:Sat h (aR p δ::X::S))(hX:cT X (cU x b))(hb:b.length<1073741824)(hf:δ.aP<4294967296)(hl:δ.log.length≤4294967296)(hr:δ.room≤4294967296):
  Call ⟨Tryz.prog,told⟩ 117 [.ptr p 0,x] h fun v h' =>
  (δ.dead=true∧v=.int .i64 9∧Sat h' (aR p δ::X::S))∨(δ.dead=false∧δ.room<δ.log.length+b.length∧v=.int .i64 7∧Sat h' (aR p δ::X::S)) ∨
  (δ.dead=false∧δ.log.length+b.length≤δ.room∧δ.aP=0∧v=.int .i64 9∧Sat h' (aR p { δ.die with tail:=b }::X::S)) ∨
  (δ.dead=false∧δ.log.length+b.length≤δ.room∧δ.aP≠0∧v=.int .i64 0∧Sat h' (aR p { δ.c8 with log:=δ.log++b }::X::S)):=by
 have s0:=s
 obtain ⟨pg,wt,nw,lg,mk,tn,tl,ops,s⟩:=bG.1 s
 refine Call.of_wp (hT.free _ rfl) Tryz.func117 rfl rfl (zK 5 rfl (WP.block (zK 4 rfl (zf rfl (ko _ _) ?_))))
 refine zd rfl (bh rfl (s.ld (k:=0) rfl kX rfl)) ?_ ?_
 ·intro J
  exact zk 7 rfl (WP.ret ⟨aa,_,rfl,.inl ⟨J,rfl,s0⟩⟩)
 ·intro J
  refine zk 4 rfl (WP.drawn [ai,ai,ai,ai,ai,ai,ai,ai,ai,ai,ai,ai,ai,ai] rfl (by kernel_rfl) (by kernel_rfl) ?_)
  refine zM rfl (zO rfl (aU rfl rfl rfl (a_ aG (s.aE (k:=8) rfl hX))) (zM rfl (zN rfl (zF rfl (KG _ _) (zL rfl (s.ld (k:=0) rfl dL rfl) (zM rfl (zN rfl (zF rfl (kn _ _) (zL rfl (s.ld (k:=0) rfl bJ rfl) (zO rfl (aU rfl rfl rfl (a_ aG (s.aE (k:=4) rfl (bg _ _)))) (zO rfl (af rfl rfl (by exact jE (aC (by omega) (by omega)))) ?_)))))))))))
  refine aB.WG rfl rfl rfl rfl (af rfl rfl gv) ?_ ?_
  ·intro I
   have I:δ.room<δ.log.length+b.length:=by simp at I; omega
   refine zA rfl ?_
   refine aB.nil ⟨⟨aa,aa,aa,aa,aa,aa,aa,aa,aa,aa,aa,aa,aa,aa,aa⟩,?_⟩
   exact zK 5 rfl (WP.ret ⟨aa,_,rfl,.inr (.inl ⟨J,I,rfl,s0⟩)⟩)
  ·intro I
   have I:δ.log.length+b.length≤δ.room:=by simp at I; omega
   refine zA rfl ?_
   refine aB.nil ⟨⟨aa,aa,aa,aa,aa,aa,aa,aa,aa,aa,aa,aa,aa,aa,aa⟩,?_⟩
   refine zK 4 rfl (zc rfl (pI hT s0 hf) ?_)
   rintro v h (⟨h0,rfl,s⟩ | ⟨h0,rfl,s⟩)
   ·skip
    refine zo rfl (eD rfl rfl) (zk 7 rfl (zc rfl (jv hT (s.ae [1]) hX hb) ?_))
    intro v h s
    have s:=(s.fU).ae [2,0,0]
    obtain ⟨pg,wt,nw,lg,mk,tn,tl,ops,s⟩:=bG.1 s
    have hv:=(s.aE (k:=8) rfl (dy _ _)).cells
    refine zn rfl (zf rfl (BZ _ _) (zS rfl (s.ey (k:=0) rfl gR rfl (by decide) hv.1 hv.2) ?_))
    intro h s
    exact zk 5 rfl (WP.ret ⟨aa,_,rfl,.inr (.inr (.inl ⟨J,I,h0,rfl,bG.2 ⟨pg,wt,nw,lg,mk,tn,v,ops,s.del 7⟩⟩))⟩)
   ·skip
    obtain ⟨pg,wt,nw,lg,mk,tn,tl,ops,s⟩:=bG.1 s
    dsimp only [Dk.c8] at s
    refine zo rfl (eD rfl rfl) (za rfl (zv (zj rfl (WP.skip (zg rfl (zk 3 rfl (zf rfl (kn _ _) (zl rfl (by exact s.ld (k:=0) rfl bJ rfl) ?_))))))))
    refine zm rfl (aA.any rfl rfl rfl (OpR.ru rfl (s.ae [4,7]) hX rfl rfl rfl rfl (by show δ.log.length+_≤_; omega)) ?_)
    intro v h s
    have hv:=(s.buf (k:=0) rfl).view.cells
    refine zn rfl (zf rfl (kn _ _) (zS rfl (s.ey (k:=2) rfl gR rfl (by decide) hv.1 hv.2) ?_))
    intro h s
    exact zk 5 rfl (WP.ret ⟨aa,_,rfl,.inr (.inr (.inr ⟨J,I,h0,rfl,bG.2 ⟨pg,wt,nw,v,mk,tn,tl,ops,s.ae [2,2,2,2,0,1,1,1]⟩⟩))⟩)
end
end Go.Proofs.YtefepnnfphdkpaaGreat.Am
